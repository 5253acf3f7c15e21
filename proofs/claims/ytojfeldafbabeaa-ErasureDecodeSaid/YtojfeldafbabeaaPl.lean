/- Plain facts of the code: the rows of the generator, the strings of bytes, what the verdict of Decode needs. -/
import Derived.Test.YtojfeldafbabeaaFr
import Derived.Test.YtojfeldafbabeaaCauchy
set_option linter.unusedVariables false
set_option linter.unusedSimpArgs false
set_option linter.unnecessarySimpa false
namespace Go.Proofs.Ytojfeldafbabeaa
open Go.RowKit Go.Mem Go.Deep

theorem strOf_inj {a b : List Nat} (ha : ∀ x ∈ a, x < 256) (hb : ∀ x ∈ b, x < 256) (h : strOf a = strOf b) : a = b := by
  have h1 : (strOf a).data.toList = (strOf b).data.toList := by rw [h]
  unfold strOf at h1
  rw [strOfNums_data, strOfNums_data] at h1
  have key : ∀ l : List Nat, (∀ x ∈ l, x < 256) → ((l.map fun n : Nat => (n : Int)).map fun n => UInt8.ofNat n.toNat).map UInt8.toNat = l := by
    intro l hl
    rw [List.map_map, List.map_map]
    conv => rhs; rw [← List.map_id l]
    refine List.map_congr_left fun x hx => ?_
    have := hl x hx
    simp [Nat.mod_eq_of_lt this]
  have := congrArg (List.map UInt8.toNat) h1
  rwa [key a ha, key b hb] at this

theorem genAt_gen {k a i : Nat} (ha : a < k + 64) (hi : i < 64) : genAt k a i = (GF.gen k a i).v := by
  unfold genAt GF.gen
  by_cases h : a < k
  · rw [if_pos h, if_pos h]
    by_cases e : i = a
    · subst e; rw [if_pos rfl, GF.dl_self]; rfl
    · rw [if_neg e, GF.dl_ne (fun q => e q.symm)]; rfl
  · rw [if_neg h, if_neg h]
    obtain ⟨j, rfl⟩ : ∃ j, a = k + j := ⟨a - k, by omega⟩
    have hj : j < 64 := by omega
    rw [show ((k + j : Nat) : Int) - k = (j : Int) by omega, show k + j - k = j by omega]
    unfold coefI
    rw [if_pos ⟨by omega, by omega, by omega, by omega⟩]
    show GF.inv _ = GF.inv ((GF.bF (128 + j)).v ^^^ (GF.bF i).v)
    congr 1
    show (128 + (j : Int).toNat) ^^^ (i : Int).toNat = ((128 + j) % 256) ^^^ (i % 256)
    rw [Nat.mod_eq_of_lt (show 128 + j < 256 by omega), Nat.mod_eq_of_lt (show i < 256 by omega)]
    simp

theorem ent_genMat {k : Nat} {fs : List Frag} {i j : Nat} (hi : i < k) (hj : j < k) (hk : k ≤ 64) (hx : (fragD fs i).1.toNat < k + 64) : ent (genMat k fs) i j = GF.gen k (fragD fs i).1.toNat j := by
  refine GF.F.ext ?_
  show ((genMat k fs).getD i []).getD j 0 % 256 = _
  have : (genMat k fs).getD i [] = genRow k (fragD fs i).1.toNat := by simp [genMat, hi]
  rw [this, genRow_getD _ _ _ hj, Nat.mod_eq_of_lt (genAt_lt _ _ _), genAt_gen hx (by omega)]

/-- k rows of a word with different indices: their generator rows have an inverse -/
theorem gen_ok {k m : Nat} {fs : List Frag} (hk : k + m ≤ 8) (hI : InR k m fs k) (hd : dupTo fs k = false) : ∃ u, GF.gjTo k (GF.aug k (ent (genMat k fs))) k = some u := by
  have hno : ∀ a b, a < b → b < k → (fragD fs a).1 ≠ (fragD fs b).1 := fun a b h1 h2 h3 => by
    have := (dupTo_iff fs k).2 ⟨a, b, h1, h2, h3⟩
    rw [hd] at this; cases this
  have hnn : ∀ i, i < k → (((fragD fs i).1.toNat : Nat) : Int) = (fragD fs i).1 := fun i hi => by have := hI i hi; omega
  have hlt : ∀ i, i < k → (fragD fs i).1.toNat < k + m := fun i hi => by have := hI i hi; omega
  obtain ⟨u, hu⟩ := GF.gen_some (k := k) (idx := (List.range k).map fun i => (fragD fs i).1.toNat) (by omega) (by
    rw [List.nodup_iff_pairwise_ne, List.pairwise_map]
    refine List.Pairwise.imp_of_mem ?_ (List.pairwise_lt_range (n := k))
    intro a b ha hb hab e
    have h1 := List.mem_range.1 ha
    have h2 := List.mem_range.1 hb
    exact hno a b hab h2 (by rw [← hnn a h1, ← hnn b h2, e])) (by simp) (by
    intro i hi
    obtain ⟨a, ha, rfl⟩ := List.mem_map.1 hi
    have := hlt a (List.mem_range.1 ha)
    omega)
  have hs := (GF.gjTo_some hu).1
  refine GF.gjTo_of_left (b := fun i j => u i (k + j)) fun i j hi hj => ?_
  rw [← hs i j hi hj]
  refine GF.sm_congr fun q hq => ?_
  rw [ent_genMat hq hj (by omega) (by have := hlt q hq; omega)]
  simp [hq]

theorem invOf_eq {n : Nat} {rows : List (List Nat)} {u : Nat → Nat → GF.F} (h : GF.gjTo n (GF.aug n (ent rows)) n = some u) : invOf n rows = outRows n u := by unfold invOf; rw [h]
theorem genMat_len (k : Nat) (fs : List Frag) : (genMat k fs).length = k := by simp [genMat]
theorem genMat_row {k i : Nat} (fs : List Frag) (hi : i < k) : (genMat k fs).getD i [] = genRow k (fragD fs i).1.toNat := by simp [genMat, hi]
theorem invRow_len {n i : Nat} {rows : List (List Nat)} {u : Nat → Nat → GF.F} (h : GF.gjTo n (GF.aug n (ent rows)) n = some u) (hi : i < n) : ((invOf n rows).getD i []).length = n := by
  rw [invOf_eq h]; simp [outRows, hi]
theorem dataOf_len (k : Nat) (fs : List Frag) : (dataOf k fs).length = k := by simp [dataOf]
theorem dataOf_row {k i : Nat} (fs : List Frag) (hi : i < k) : (dataOf k fs).getD i [] = GF.comb ((invOf k (genMat k fs)).getD i []) (rowsTo fs k) := by simp [dataOf, hi]
theorem dataOf_rowlen {k i : Nat} (fs : List Frag) (hi : i < k) : ((dataOf k fs).getD i []).length = (fragD fs 0).2.length := by
  rw [dataOf_row fs hi, GF.comb_length, rowsTo_getD fs k 0 (by omega)]
theorem dataOf_level (k : Nat) (fs : List Frag) (hk : 1 ≤ k) : Level (dataOf k fs) := fun i hi => by
  rw [dataOf_len] at hi
  rw [dataOf_rowlen fs hi, dataOf_rowlen fs (by omega)]
theorem level_take {fs : List Frag} {n k : Nat} (h : Level (rowsTo fs n)) (hk : k ≤ n) : Level (rowsTo fs k) := fun i hi => by
  rw [rowsTo_len] at hi
  have h1 := h i (by rw [rowsTo_len]; omega)
  rwa [rowsTo_getD _ _ _ (by omega), rowsTo_getD _ _ _ (by omega)] at h1 ⊢

section
open Classical
variable {k m : Nat} {fs : List Frag} {n : Nat}
theorem verdict_dup (hn : n = fs.length) (hI : InR k m fs n) (hd : dupTo fs n = true) : verdict k m fs = 8 := by
  subst hn
  unfold verdict
  rw [if_neg (fun h => h hI), if_pos hd]
theorem verdict_short (hn : n = fs.length) (hI : InR k m fs n) (hd : dupTo fs n = false) (hk : n < k) : verdict k m fs = 10 := by
  subst hn
  unfold verdict
  rw [if_neg (fun h => h hI), if_neg (by rw [hd]; decide), if_pos hk]
theorem verdict_level (hn : n = fs.length) (hI : InR k m fs n) (hd : dupTo fs n = false) (hk : k ≤ n) (hl : ¬ Level (rowsTo fs n)) : verdict k m fs = 11 := by
  subst hn
  unfold verdict
  rw [if_neg (fun h => h hI), if_neg (by rw [hd]; decide), if_neg (by omega), if_pos hl]
theorem verdict_fits (hn : n = fs.length) (hI : InR k m fs n) (hd : dupTo fs n = false) (hk : k ≤ n) (hl : Level (rowsTo fs n)) (hf : ¬ Fits k m fs n) : verdict k m fs = 11 := by
  subst hn
  unfold verdict
  rw [if_neg (fun h => h hI), if_neg (by rw [hd]; decide), if_neg (by omega), if_neg (fun h => h hl), if_pos hf]
theorem verdict_ok (hn : n = fs.length) (hI : InR k m fs n) (hd : dupTo fs n = false) (hk : k ≤ n) (hl : Level (rowsTo fs n)) (hf : Fits k m fs n) : verdict k m fs = 0 := by
  subst hn
  unfold verdict
  rw [if_neg (fun h => h hI), if_neg (by rw [hd]; decide), if_neg (by omega), if_neg (fun h => h hl), if_neg (fun h => h hf)]
end
end Go.Proofs.Ytojfeldafbabeaa
