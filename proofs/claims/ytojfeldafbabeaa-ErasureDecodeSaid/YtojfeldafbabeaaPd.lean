/- Plain law: a word in which one byte of one row was changed is no word. -/
import Derived.Test.YtojfeldafbabeaaPb
set_option linter.unusedVariables false
set_option linter.unusedSimpArgs false
set_option linter.unnecessarySimpa false
namespace Go.Proofs.Ytojfeldafbabeaa
open Go.RowKit Go.Mem Go.Deep

def chRow (W : List (List Nat)) (p t y i : Nat) : List Nat := if i = p then (W.getD i []).set t ((W.getD i []).getD t 0 ^^^ y) else W.getD i []
def deFs (W : List (List Nat)) (p t y N : Nat) : List Frag := (List.range N).map fun i : Nat => ((i : Int), chRow W p t y i)
theorem deFs_len (W : List (List Nat)) (p t y N : Nat) : (deFs W p t y N).length = N := by simp [deFs]
theorem deFs_at {W : List (List Nat)} {p t y N i : Nat} (hi : i < N) : fragD (deFs W p t y N) i = ((i : Int), chRow W p t y i) := by unfold fragD deFs; simp [hi]
theorem deFs_succ (W : List (List Nat)) (p t y N : Nat) : deFs W p t y (N + 1) = deFs W p t y N ++ [((N : Int), chRow W p t y N)] := by simp [deFs, List.range_succ]
theorem chRow_len (W : List (List Nat)) (p t y i : Nat) : (chRow W p t y i).length = (W.getD i []).length := by unfold chRow; split <;> simp

theorem gen_ne {k p : Nat} (hp : p < k) (hk : k ≤ 64) : GF.gen k k p ≠ 0 := by
  unfold GF.gen
  rw [if_neg (Nat.lt_irrefl k), Nat.sub_self]
  unfold GF.coef
  refine GF.F.inv_ne_zero (GF.add_ne fun h => ?_)
  have := GF.bF_inj (a := 128 + 0) (b := p) (by omega) (by omega) h
  omega

theorem dataOf_low {k m : Nat} {fs : List Frag} (h8 : k + m ≤ 8) (hI : InR k m fs k) (hd : dupTo fs k = false) : Low (dataOf k fs) := by
  obtain ⟨u, hu⟩ := gen_ok (m := m) h8 hI hd
  intro i j
  by_cases hi : i < k
  · rw [dataOf_row fs hi]
    refine GF.getD_lt (GF.comb_lt (fun x hx => ?_) _) j
    rw [invOf_eq hu] at hx
    simp [outRows, hi] at hx
    obtain ⟨q, _, rfl⟩ := hx
    exact (u i (k + q)).lt
  · have : (dataOf k fs).getD i [] = [] := by rw [List.getD_eq_getElem?_getD, List.getElem?_eq_none (by rw [dataOf_len]; omega)]; rfl
    rw [this]; simp

theorem verdict_changed {k m p t y n : Nat} {data : List (List Nat)} (hk : 1 ≤ k) (hm : 1 ≤ m) (h8 : k + m ≤ 8) (hl : data.length = k) (hn : ∀ i, i < k → (data.getD i []).length = n) (hlow : Low data) (hp : p < k + m) (ht : t < n) (hy0 : 0 < y) (hy : y < 256) :
    verdict k m (deFs (wordTo k data (k + m)) p t y (k + m)) = 11 := by
  obtain ⟨W, hW⟩ : ∃ W, W = wordTo k data (k + m) := ⟨_, rfl⟩
  rw [← hW]
  have hv : Level data := level_of (n := n) (by rw [hl]; exact hn)
  have hlen : ∀ i, i < k + m → (W.getD i []).length = n := fun i hi => by rw [hW, word_rowlen hi, hn 0 (by omega)]
  have hI : InR k m (deFs W p t y (k + m)) (k + m) := fun i hi => by rw [deFs_at hi]; exact ⟨Int.natCast_nonneg _, by show (i : Int) < _; omega⟩
  have hd : ∀ q, q ≤ k + m → dupTo (deFs W p t y (k + m)) q = false := fun q hq => by
    cases h : dupTo (deFs W p t y (k + m)) q with
    | false => rfl
    | true =>
      obtain ⟨a, b, hab, hb, he⟩ := (dupTo_iff _ _).1 h
      rw [deFs_at (by omega), deFs_at (by omega)] at he
      have : (a : Int) = b := he
      omega
  refine verdict_fits (n := k + m) (deFs_len _ _ _ _ _).symm hI (hd _ (Nat.le_refl _)) (by omega) (fun i hi => ?_) (fun hF => ?_)
  · rw [rowsTo_len] at hi
    rw [rowsTo_getD _ _ _ hi, rowsTo_getD _ _ _ (by omega), deFs_at hi, deFs_at (by omega)]
    show (chRow W p t y i).length = (chRow W p t y 0).length
    rw [chRow_len, chRow_len, hlen i hi, hlen 0 (by omega)]
  · obtain ⟨D, hD⟩ : ∃ D, D = dataOf k (deFs W p t y (k + m)) := ⟨_, rfl⟩
    have hDl : D.length = k := by rw [hD, dataOf_len]
    have hDlow : Low D := by rw [hD]; exact dataOf_low h8 (fun i hi => hI i (by omega)) (hd _ (by omega))
    have hDv : Level D := by rw [hD]; exact dataOf_level k _ hk
    have hD0 : (D.getD 0 []).length = n := by
      rw [hD, dataOf_rowlen _ (by omega), deFs_at (by omega)]
      show (chRow W p t y 0).length = n
      rw [chRow_len, hlen 0 (by omega)]
    have hrow : ∀ i, i < k + m → GF.comb (genRow k i) D = chRow W p t y i := fun i hi => by
      have h := hF i hi
      rw [deFs_at hi] at h
      unfold wordOf at h
      rw [← hD] at h
      rw [← wordTo_getD k D (k + m) i hi]
      simpa using h
    have hWrow : ∀ i, i < k + m → W.getD i [] = GF.comb (genRow k i) data := fun i hi => by rw [hW, wordTo_getD _ _ _ _ hi]
    have hDi : ∀ i, i < k → D.getD i [] = chRow W p t y i := fun i hi => by rw [← hrow i (by omega), comb_data hDl (by omega) hi hDv hDlow]
    have hWi : ∀ i, i < k → W.getD i [] = data.getD i [] := fun i hi => by rw [hWrow i (by omega), comb_data hl (by omega) hi hv hlow]
    by_cases hpk : p < k
    · -- a data row was changed: the first parity row shows it
      have hpar : GF.comb (genRow k k) D = GF.comb (genRow k k) data := by
        rw [hrow k (by omega), ← hWrow k (by omega)]
        unfold chRow
        rw [if_neg (by omega)]
      have h1 := comb_gen (a := k) hDl (by omega) (by omega) hDlow (j := t) (by rw [hD0]; exact ht)
      have h2 := comb_gen (a := k) hl (by omega) (by omega) hlow (j := t) (by rw [hn 0 (by omega)]; exact ht)
      rw [hpar, h2] at h1
      have h3 : GF.sm k (fun q => GF.gen k k q * ent data q t) = GF.sm k (fun q => GF.gen k k q * ent D q t) := GF.F.ext h1
      have h4 : ∀ q, q < k → ent D q t = ent data q t + (if q = p then ⟨y, hy⟩ else 0) := fun q hq => by
        refine GF.F.ext ?_
        rw [ent_v hDlow, hDi q hq, GF.F.v_add, ent_v hlow]
        unfold chRow
        by_cases e : q = p
        · subst e
          rw [if_pos rfl, if_pos rfl, hWi q hq]
          have : t < (data.getD q []).length := by rw [hn q hq]; exact ht
          simp only [List.getD_eq_getElem?_getD] at this ⊢
          rw [List.getElem?_set_self this]
          rfl
        · rw [if_neg e, if_neg e, hWi q hq, GF.F.v_zero, Nat.xor_zero]
      have h5 : GF.sm k (fun q => GF.gen k k q * ent D q t) = GF.sm k (fun q => GF.gen k k q * ent data q t) + GF.sm k (fun q => GF.gen k k q * (if q = p then ⟨y, hy⟩ else 0)) := by
        rw [← GF.sm_add]
        exact GF.sm_congr fun q hq => by rw [h4 q hq, GF.F.mul_add]
      have h6 : GF.sm k (fun q => GF.gen k k q * (if q = p then (⟨y, hy⟩ : GF.F) else 0)) = GF.gen k k p * ⟨y, hy⟩ := by
        rw [GF.sm_single hpk (fun q _ hq => by rw [if_neg hq, GF.F.mul_zero]), if_pos rfl]
      rw [← h3, h6] at h5
      have h7 : GF.gen k k p * (⟨y, hy⟩ : GF.F) = 0 := by
        have := congrArg (fun z => GF.sm k (fun q => GF.gen k k q * ent data q t) + z) h5
        simp only [← GF.F.add_assoc, GF.F.add_self, GF.F.zero_add] at this
        exact this.symm
      have hyn : (⟨y, hy⟩ : GF.F) ≠ 0 := fun h => by
        have := congrArg GF.F.v h
        rw [GF.F.v_zero] at this
        simp at this
        omega
      exact gen_ne hpk (by omega) (GF.F.mul_eq_zero h7 hyn)
    · -- a parity row was changed
      have hDd : D = data := ext_rows (by rw [hDl, hl]) fun i hi => by
        rw [hDl] at hi
        rw [hDi i hi, ← hWi i hi]
        unfold chRow
        rw [if_neg (by omega)]
      have h1 := hrow p hp
      rw [hDd, ← hWrow p hp] at h1
      unfold chRow at h1
      rw [if_pos rfl] at h1
      have h2 := congrArg (fun l => l.getD t 0) h1
      have htl : t < (W.getD p []).length := by rw [hlen p hp]; exact ht
      simp only [List.getD_eq_getElem?_getD] at h2 htl
      rw [List.getElem?_set_self htl] at h2
      simp at h2
      obtain ⟨z, hz⟩ : ∃ z, z = (W[p]?.getD [])[t]?.getD 0 := ⟨_, rfl⟩
      rw [← hz] at h2
      have h3 : z ^^^ z = z ^^^ (z ^^^ y) := by rw [← h2]
      rw [Nat.xor_self, ← Nat.xor_assoc, Nat.xor_self, Nat.zero_xor] at h3
      omega
end Go.Proofs.Ytojfeldafbabeaa
