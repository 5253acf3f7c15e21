/- Plain law: every square submatrix of the matrix of the coefficients has an inverse. -/
import Derived.Test.YtojfeldafbabeaaPw
set_option linter.unusedVariables false
set_option linter.unusedSimpArgs false
set_option linter.unnecessarySimpa false
namespace Go.Proofs.Ytojfeldafbabeaa
open Go.RowKit Go.Mem Go.Deep

def minorRow (rs cs : List Nat) (n i : Nat) : List Nat := (List.range n).map fun j => coefI (rs.getD i 0 : Nat) (cs.getD j 0 : Nat)
def minorTo (rs cs : List Nat) (n a : Nat) : List (List Nat) := (List.range a).map (minorRow rs cs n)
theorem minorTo_len (rs cs : List Nat) (n a : Nat) : (minorTo rs cs n a).length = a := by simp [minorTo]
theorem minorTo_succ (rs cs : List Nat) (n a : Nat) : minorTo rs cs n (a + 1) = minorTo rs cs n a ++ [minorRow rs cs n a] := by simp [minorTo, List.range_succ]
theorem minorTo_at (rs cs : List Nat) (n a : Nat) {i : Nat} (hi : i < a) : (minorTo rs cs n a).getD i [] = minorRow rs cs n i := by simp [minorTo, hi]
theorem minorRow_len (rs cs : List Nat) (n i : Nat) : (minorRow rs cs n i).length = n := by simp [minorRow]
theorem minorRow_succ (rs cs : List Nat) (n i : Nat) : minorRow rs cs (n + 1) i = minorRow rs cs n i ++ [coefI (rs.getD i 0 : Nat) (cs.getD n 0 : Nat)] := by simp [minorRow, List.range_succ]
theorem minorRow_lt (rs cs : List Nat) (n i : Nat) : ∀ x ∈ minorRow rs cs n i, x < 256 := fun x hx => by
  obtain ⟨j, _, rfl⟩ := List.mem_map.1 hx
  exact coefI_lt _ _

theorem coefI_coef {j i : Nat} (hj : j < 64) (hi : i < 64) : coefI (j : Int) (i : Int) = (GF.coef j i).v := by
  have h := genAt_gen (k := 64) (a := 64 + j) (i := i) (by omega) hi
  unfold genAt GF.gen at h
  rw [if_neg (by omega), if_neg (by omega), show ((64 + j : Nat) : Int) - (64 : Nat) = (j : Int) by omega, show 64 + j - 64 = j by omega] at h
  exact h

theorem getD_pw {l : List Nat} (hp : l.Pairwise (· < ·)) {a b : Nat} (ha : a < l.length) (hb : b < l.length) (h : l.getD a 0 = l.getD b 0) : a = b := by
  have hh := List.pairwise_iff_getElem.1 hp
  simp [ha, hb] at h
  rcases Nat.lt_trichotomy a b with h1 | h1 | h1
  · have := hh a b ha hb h1; omega
  · exact h1
  · have := hh b a hb ha h1; omega

theorem minor_ok {rs cs : List Nat} {n : Nat} (hr : rs.Pairwise (· < ·)) (hc : cs.Pairwise (· < ·)) (hr64 : ∀ x ∈ rs, x < 64) (hc64 : ∀ x ∈ cs, x < 64) (hnr : n ≤ rs.length) (hnc : n ≤ cs.length) :
    ∃ u, GF.gjTo n (GF.aug n (ent (minorTo rs cs n n))) n = some u := by
  have r64 : ∀ i, i < n → rs.getD i 0 < 64 := fun i hi => hr64 _ (by simp [show i < rs.length by omega])
  have c64 : ∀ i, i < n → cs.getD i 0 < 64 := fun i hi => hc64 _ (by simp [show i < cs.length by omega])
  have hent : ∀ i j, i < n → j < n → ent (minorTo rs cs n n) i j = (GF.bF (128 + rs.getD i 0) + GF.bF (cs.getD j 0)).inv := fun i j hi hj => by
    refine GF.F.ext ?_
    show ((minorTo rs cs n n).getD i []).getD j 0 % 256 = _
    rw [minorTo_at _ _ _ _ hi]
    have : (minorRow rs cs n i).getD j 0 = coefI (rs.getD i 0 : Nat) (cs.getD j 0 : Nat) := by simp [minorRow, hj]
    rw [this, Nat.mod_eq_of_lt (coefI_lt _ _), coefI_coef (r64 i hi) (c64 j hj)]
    rfl
  cases hu : GF.gjTo n (GF.aug n (ent (minorTo rs cs n n))) n with
  | some u => exact ⟨u, rfl⟩
  | none =>
    exfalso
    obtain ⟨l, hl, x, hx1, hx0⟩ := GF.gjTo_none (Nat.le_refl n) hu
    have hne : ∀ p, p < n → ∀ q, q < n → GF.bF (128 + rs.getD p 0) + GF.bF (cs.getD q 0) ≠ 0 := fun p hp q hq => GF.add_ne fun e => by
      have := GF.bF_inj (by have := r64 p hp; omega) (by have := c64 q hq; omega) e
      have := c64 q hq
      omega
    have key := GF.cauchy (fun p => GF.bF (128 + rs.getD p 0)) (fun q => GF.bF (cs.getD q 0)) (List.range n) (List.range n) List.nodup_range List.nodup_range (Nat.le_refl _)
      (fun p hp p' hp' e => by
        have h1 := List.mem_range.1 hp
        have h2 := List.mem_range.1 hp'
        have := GF.bF_inj (by have := r64 p h1; omega) (by have := r64 p' h2; omega) e
        exact getD_pw hr (by omega) (by omega) (by omega))
      (fun q hq q' hq' e => by
        have h1 := List.mem_range.1 hq
        have h2 := List.mem_range.1 hq'
        have := GF.bF_inj (by have := c64 q h1; omega) (by have := c64 q' h2; omega) e
        exact getD_pw hc (by omega) (by omega) this)
      (fun p hp q hq => hne p (List.mem_range.1 hp) q (List.mem_range.1 hq)) x (fun p hp => by
        have h1 := List.mem_range.1 hp
        have h := hx0 p h1
        rw [GF.sm_congr (g := fun q => x q * (GF.bF (128 + rs.getD p 0) + GF.bF (cs.getD q 0)).inv) fun q hq => by rw [hent p q h1 hq, GF.F.mul_comm]] at h
        have e := GF.sm_filter n (fun _ => true) (fun q => x q * (GF.bF (128 + rs.getD p 0) + GF.bF (cs.getD q 0)).inv) (fun i _ h => by cases h)
        rw [List.filter_eq_self.2 (fun _ _ => rfl)] at e
        rw [← e]; exact h) l (List.mem_range.2 hl)
    rw [hx1] at key
    exact GF.F.one_ne_zero key
end Go.Proofs.Ytojfeldafbabeaa
