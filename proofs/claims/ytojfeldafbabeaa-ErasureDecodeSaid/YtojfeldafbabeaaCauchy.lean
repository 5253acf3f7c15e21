/- Cauchy's matrices over the field of 256 elements have no kernel; the rows of a systematic code. No program in sight. -/
import Derived.Test.YtojfeldafbabeaaMat
set_option linter.unusedVariables false
set_option linter.unusedSimpArgs false
set_option linter.unnecessarySimpa false
namespace GF

/-- the sum over a list -/
def ls : List Nat → (Nat → F) → F
  | [], _ => 0
  | q :: qs, f => f q + ls qs f
theorem ls_congr {l : List Nat} {f g : Nat → F} (h : ∀ q ∈ l, f q = g q) : ls l f = ls l g := by
  induction l with
  | nil => rfl
  | cons q l ih => simp only [ls]; rw [h q (by simp), ih fun q hq => h q (by simp [hq])]
theorem ls_zero (l : List Nat) : ls l (fun _ => 0) = 0 := by
  induction l with
  | nil => rfl
  | cons q l ih => simp only [ls]; rw [ih, F.add_zero]
theorem ls_add (l : List Nat) (f g : Nat → F) : ls l (fun i => f i + g i) = ls l f + ls l g := by
  induction l with
  | nil => exact (F.add_zero 0).symm
  | cons q l ih => simp only [ls]; rw [ih, F.add_assoc, F.add_assoc, F.add_left_comm (g q)]
theorem ls_mul (l : List Nat) (c : F) (f : Nat → F) : c * ls l f = ls l (fun i => c * f i) := by
  induction l with
  | nil => exact F.mul_zero c
  | cons q l ih => simp only [ls]; rw [F.mul_add, ih]

theorem F.mul_inv {a : F} (h : a ≠ 0) : a * a.inv = 1 := by rw [F.mul_comm]; exact F.inv_mul h
theorem add_ne {a b : F} (h : a ≠ b) : a + b ≠ 0 := fun e => h (F.eq_of_add_eq_zero e)

theorem inv_add {a b : F} (ha : a ≠ 0) (hb : b ≠ 0) : a.inv + b.inv = (a + b) * (a.inv * b.inv) := by
  rw [F.add_mul]
  have h1 : a * (a.inv * b.inv) = b.inv := by rw [← F.mul_assoc, F.mul_inv ha, F.one_mul]
  have h2 : b * (a.inv * b.inv) = a.inv := by rw [F.mul_left_comm, F.mul_inv hb, F.mul_one]
  rw [h1, h2, F.add_comm]

theorem cauchy (P Q : Nat → F) : ∀ (qs ps : List Nat), qs.Nodup → ps.Nodup → qs.length ≤ ps.length → (∀ p ∈ ps, ∀ p' ∈ ps, P p = P p' → p = p') → (∀ q ∈ qs, ∀ q' ∈ qs, Q q = Q q' → q = q') →
    (∀ p ∈ ps, ∀ q ∈ qs, P p + Q q ≠ 0) → ∀ x : Nat → F, (∀ p ∈ ps, ls qs (fun q => x q * (P p + Q q).inv) = 0) → ∀ q ∈ qs, x q = 0
  | [], _, _, _, _, _, _, _, _, _ => fun _ h => by cases h
  | q0 :: qs, [], _, _, hl, _, _, _, _, _ => by simp at hl
  | q0 :: qs, p0 :: ps, hq, hp, hl, hP, hQ, hn, x, h => by
    obtain ⟨hq0, hq⟩ := List.nodup_cons.1 hq
    obtain ⟨hp0, hp⟩ := List.nodup_cons.1 hp
    -- every equation, the first column taken out
    have key : ∀ p ∈ p0 :: ps, ls qs (fun q => (x q * (Q q + Q q0)) * (P p + Q q).inv) = x q0 + ls qs x := by
      intro p hpm
      have h1 := h p hpm
      have n0 := hn p hpm q0 (by simp)
      simp only [ls] at h1
      have h2 : (P p + Q q0) * (x q0 * (P p + Q q0).inv + ls qs (fun q => x q * (P p + Q q).inv)) = 0 := by rw [h1, F.mul_zero]
      rw [F.mul_add, F.mul_left_comm, F.mul_inv n0, F.mul_one, ls_mul] at h2
      have h3 : ls qs (fun q => (P p + Q q0) * (x q * (P p + Q q).inv)) = ls qs x + ls qs (fun q => (x q * (Q q + Q q0)) * (P p + Q q).inv) := by
        rw [← ls_add]
        refine ls_congr fun q hqm => ?_
        have nq := hn p hpm q (by simp [hqm])
        have e : P p + Q q0 = (P p + Q q) + (Q q + Q q0) := by
          rw [F.add_assoc, ← F.add_assoc (Q q), F.add_self, F.zero_add]
        rw [e, F.add_mul]
        congr 1
        · rw [F.mul_left_comm, F.mul_inv nq, F.mul_one]
        · rw [← F.mul_assoc, F.mul_comm (Q q + Q q0)]
      rw [h3, ← F.add_assoc] at h2
      exact (F.eq_of_add_eq_zero h2).symm
    -- the difference with the first row
    have IH := cauchy P Q qs ps hq hp (by simpa using hl) (fun p h1 p' h2 => hP p (by simp [h1]) p' (by simp [h2])) (fun q h1 q' h2 => hQ q (by simp [h1]) q' (by simp [h2]))
      (fun p h1 q h2 => hn p (by simp [h1]) q (by simp [h2])) (fun q => (x q * (Q q + Q q0)) * (P p0 + Q q).inv) (fun p hpm => by
        have hne : P p + P p0 ≠ 0 := add_ne fun e => by
          have := hP p (by simp [hpm]) p0 (by simp) e
          subst this
          exact hp0 hpm
        have k1 := key p (by simp [hpm])
        have k0 := key p0 (by simp)
        have k2 : ls qs (fun q => (x q * (Q q + Q q0)) * (P p + Q q).inv) + ls qs (fun q => (x q * (Q q + Q q0)) * (P p0 + Q q).inv) = 0 := by rw [k1, k0, F.add_self]
        rw [← ls_add] at k2
        have k3 : (P p + P p0) * ls qs (fun q => ((x q * (Q q + Q q0)) * (P p0 + Q q).inv) * (P p + Q q).inv) = 0 := by
          rw [ls_mul, ← k2]
          refine ls_congr fun q hqm => ?_
          have na := hn p (by simp [hpm]) q (by simp [hqm])
          have nb := hn p0 (by simp) q (by simp [hqm])
          have e : P p + P p0 = (P p + Q q) + (P p0 + Q q) := by
            rw [F.add_comm (P p0), F.add_assoc, ← F.add_assoc (Q q), F.add_self, F.zero_add]
          rw [← F.mul_add, inv_add na nb, e]
          generalize P p + Q q = a
          generalize P p0 + Q q = b
          generalize x q * (Q q + Q q0) = y
          rw [F.mul_assoc y, F.mul_comm b.inv, F.mul_left_comm]
        rw [F.mul_comm] at k3
        exact F.mul_eq_zero k3 hne)
    have hx : ∀ q ∈ qs, x q = 0 := fun q hqm => by
      have h1 := IH q hqm
      have nb := hn p0 (by simp) q (by simp [hqm])
      have h2 := F.mul_eq_zero h1 (F.inv_ne_zero nb)
      refine F.mul_eq_zero h2 (add_ne fun e => ?_)
      have := hQ q (by simp [hqm]) q0 (by simp) e
      subst this
      exact hq0 hqm
    intro q hqm
    rcases List.mem_cons.1 hqm with rfl | hqm
    · have h1 := h p0 (by simp)
      simp only [ls] at h1
      rw [ls_congr (g := fun _ => 0) fun q' hq' => by rw [hx q' hq', F.zero_mul], ls_zero, F.add_zero] at h1
      exact F.mul_eq_zero h1 (F.inv_ne_zero (hn p0 (by simp) q (by simp)))
    · exact hx q hqm

/-- a byte as an element -/
def bF (n : Nat) : F := ⟨n % 256, Nat.mod_lt _ (by decide)⟩
theorem bF_inj {a b : Nat} (ha : a < 256) (hb : b < 256) (h : bF a = bF b) : a = b := by
  have := congrArg F.v h
  simpa [bF, Nat.mod_eq_of_lt ha, Nat.mod_eq_of_lt hb] using this
/-- the coefficient of data row i in parity row j -/
def coef (j i : Nat) : F := (bF (128 + j) + bF i).inv
/-- the factor of data row j in the row with index at of a code word -/
def gen (k at' j : Nat) : F := if at' < k then dl at' j else coef (at' - k) j

theorem sm_filter (n : Nat) (p : Nat → Bool) (f : Nat → F) (h : ∀ i, i < n → p i = false → f i = 0) : sm n f = ls ((List.range n).filter p) f := by
  have app : ∀ (a b : List Nat), ls (a ++ b) f = ls a f + ls b f := by
    intro a b
    induction a with
    | nil => exact (F.zero_add _).symm
    | cons q a ih => simp only [List.cons_append, ls]; rw [ih, F.add_assoc]
  induction n with
  | zero => rfl
  | succ n ih =>
    simp only [sm]
    rw [List.range_succ, List.filter_append, app, ih fun i hi => h i (by omega)]
    congr 1
    by_cases hp : p n = true
    · simp [hp, ls, F.add_zero]
    · have hp' : p n = false := by simpa using hp
      simp [hp', ls, h n (by omega) hp']

theorem len_filter (p : Nat → Bool) (l : List Nat) : l.length = (l.filter p).length + (l.filter fun i => !p i).length := by
  induction l with
  | nil => rfl
  | cons a l ih => by_cases h : p a = true <;> simp [h] <;> omega

theorem gen_kernel {k : Nat} {idx : List Nat} (hk : k ≤ 64) (hn : idx.Nodup) (hl : idx.length = k) (hb : ∀ i ∈ idx, i < k + 64) (x : Nat → F) (h : ∀ i ∈ idx, sm k (fun j => gen k i j * x j) = 0) : ∀ j, j < k → x j = 0 := by
  have hd : ∀ i ∈ idx, i < k → x i = 0 := fun i hi hik => by
    have := h i hi
    rw [sm_congr (g := fun j => dl i j * x j) fun j _ => by unfold gen; rw [if_pos hik], sm_dl hik] at this
    exact this
  let D := idx.filter fun i => decide (i < k)
  let R := idx.filter fun i => !decide (i < k)
  let M := (List.range k).filter fun j => !decide (j ∈ idx)
  have lenDR : D.length + R.length = k := by
    rw [← hl]
    exact (len_filter (fun i => decide (i < k)) idx).symm
  have lenDM : D.length + M.length = k := by
    have h1 := len_filter (fun j => decide (j ∈ idx)) (List.range k)
    simp only [List.length_range] at h1
    have h2 : D.length = ((List.range k).filter fun j => decide (j ∈ idx)).length := by
      have p : List.Perm D ((List.range k).filter fun j => decide (j ∈ idx)) := by
        refine (List.perm_ext_iff_of_nodup (hn.filter _) (List.nodup_range.filter _)).2 fun a => ?_
        simp only [List.mem_filter, List.mem_range, decide_eq_true_eq]
        exact And.comm
      exact p.length_eq
    have h3 : M.length = ((List.range k).filter fun i => !decide (i ∈ idx)).length := rfl
    omega
  intro j hj
  by_cases hji : j ∈ idx
  · exact hd j hji hj
  have hz : ∀ i, i < k → (!decide (i ∈ idx)) = false → x i = 0 := fun i hi hm => hd i (by simpa using hm) hi
  refine cauchy (fun i => bF (128 + (i - k))) bF M R (List.nodup_range.filter _) (hn.filter _) (by show M.length ≤ R.length; omega) ?_ ?_ ?_ x ?_ j (by simp [M, hj, hji])
  · intro p hp p' hp' e
    simp [R] at hp hp'
    have b1 := hb p hp.1
    have b2 := hb p' hp'.1
    have := bF_inj (by omega) (by omega) e
    omega
  · intro q hq q' hq' e
    simp [M] at hq hq'
    exact bF_inj (by omega) (by omega) e
  · intro p hp q hq
    simp [R] at hp
    simp [M] at hq
    have b1 := hb p hp.1
    refine add_ne fun e => ?_
    have := bF_inj (by omega) (by omega) e
    omega
  · intro p hp
    simp [R] at hp
    have h1 := h p hp.1
    have h2 : sm k (fun j => gen k p j * x j) = ls M (fun j => gen k p j * x j) := sm_filter k _ _ fun i hi hm => by rw [hz i hi hm, F.mul_zero]
    rw [h2] at h1
    rw [← h1]
    refine ls_congr fun q _ => ?_
    unfold gen coef
    rw [if_neg (by omega), F.mul_comm]

/-- any k rows of a code word have an inverse -/
theorem gen_some {k : Nat} {idx : List Nat} (hk : k ≤ 64) (hn : idx.Nodup) (hl : idx.length = k) (hb : ∀ i ∈ idx, i < k + 64) : ∃ u, gjTo k (aug k fun i j => gen k (idx.getD i 0) j) k = some u := by
  cases hu : gjTo k (aug k fun i j => gen k (idx.getD i 0) j) k with
  | some u => exact ⟨u, rfl⟩
  | none =>
    obtain ⟨l, hlk, x, hx, h0⟩ := gjTo_none (Nat.le_refl k) hu
    have := gen_kernel hk hn hl hb x (fun i hi => by
      obtain ⟨n, hn', rfl⟩ := List.getElem_of_mem hi
      have := h0 n (by omega)
      simpa [List.getD, hn'] using this) l hlk
    rw [hx] at this
    exact absurd this F.one_ne_zero

end GF
