/- Plain law: rows of a word give back the data, and Decode accepts them. -/
import Derived.Test.YtojfeldafbabeaaPw
import Derived.Test.YtojfeldafbabeaaCh
set_option linter.unusedVariables false
set_option linter.unusedSimpArgs false
set_option linter.unnecessarySimpa false
namespace Go.Proofs.Ytojfeldafbabeaa
open Go.RowKit Go.Mem Go.Deep

theorem invRow_at {n i q : Nat} {rows : List (List Nat)} {u : Nat → Nat → GF.F} (h : GF.gjTo n (GF.aug n (ent rows)) n = some u) (hi : i < n) (hq : q < n) : ((invOf n rows).getD i []).getD q 0 = (u i (n + q)).v := by
  rw [invOf_eq h]; simp [outRows, hi, hq]

theorem data_back {k m : Nat} {fs : List Frag} {data : List (List Nat)} (hk : 1 ≤ k) (h8 : k + m ≤ 8) (hI : InR k m fs k) (hd : dupTo fs k = false) (hl : data.length = k) (hv : Level data) (hlow : Low data)
    (hrow : ∀ i, i < k → (fragD fs i).2 = GF.comb (genRow k (fragD fs i).1.toNat) data) : dataOf k fs = data := by
  obtain ⟨u, hu⟩ := gen_ok (m := m) h8 hI hd
  have hlt : ∀ i, i < k → (fragD fs i).1.toNat < k + 64 := fun i hi => by have := hI i hi; omega
  have h0 : (fragD fs 0).2.length = (data.getD 0 []).length := by rw [hrow 0 (by omega), GF.comb_length]
  refine ext_rows (by rw [dataOf_len, hl]) fun i hi => ?_
  rw [dataOf_len] at hi
  refine ext_getD (by rw [dataOf_rowlen fs hi, h0, hv i (by omega)]) fun j hj => ?_
  rw [dataOf_rowlen fs hi] at hj
  rw [dataOf_row fs hi, GF.comb_getD _ _ _ (by rw [rowsTo_getD _ _ _ (by omega)]; exact hj), rowsTo_len]
  have key := sumTo_sm (c := (invOf k (genMat k fs)).getD i []) (rows := rowsTo fs k) (fun q => u i (k + q)) (fun q j => GF.sm k (fun p => GF.gen k (fragD fs q).1.toNat p * ent data p j)) j k (fun q hq => ⟨invRow_at hu hi hq, by
    rw [rowsTo_getD _ _ _ hq, hrow q hq, comb_gen hl (by omega) (hlt q hq) hlow (by rw [← h0]; exact hj)]⟩)
  rw [key, ← ent_v hlow]
  refine congrArg GF.F.v ?_
  have e := GF.mm_assoc k (fun i l => u i (k + l)) (fun l p => GF.gen k (fragD fs l).1.toNat p) (fun p => ent data p j) i
  rw [← e]
  rw [GF.sm_congr (g := fun p => GF.dl i p * ent data p j) fun p hp => by
    rw [← (GF.gjTo_some hu).1 i p hi hp]
    congr 1
    refine GF.sm_congr fun q hq => ?_
    rw [ent_genMat hq hp (by omega) (hlt q hq)]]
  exact GF.sm_dl hi (fun p => ent data p j)

/-- rows of a word are accepted -/
theorem verdict_word {k m : Nat} {fs : List Frag} {data : List (List Nat)} (hk : 1 ≤ k) (h8 : k + m ≤ 8) (hkn : k ≤ fs.length) (hI : InR k m fs fs.length) (hd : dupTo fs fs.length = false) (hl : data.length = k) (hv : Level data) (hlow : Low data)
    (hrow : ∀ i, i < fs.length → (fragD fs i).2 = GF.comb (genRow k (fragD fs i).1.toNat) data) : verdict k m fs = 0 ∧ wordOf k m fs = wordTo k data (k + m) := by
  have hdk : dupTo fs k = false := by
    cases h : dupTo fs k with
    | false => rfl
    | true =>
      obtain ⟨x, y, h1, h2, h3⟩ := (dupTo_iff fs k).1 h
      have := (dupTo_iff fs fs.length).2 ⟨x, y, h1, by omega, h3⟩
      rw [hd] at this; cases this
  have hback := data_back (m := m) hk h8 (fun i hi => hI i (by omega)) hdk hl hv hlow (fun i hi => hrow i (by omega))
  have hw : wordOf k m fs = wordTo k data (k + m) := by unfold wordOf; rw [hback]
  refine ⟨verdict_ok rfl hI hd hkn (fun i hi => ?_) (fun i hi => ?_), hw⟩
  · rw [rowsTo_len] at hi
    rw [rowsTo_getD _ _ _ hi, rowsTo_getD _ _ _ (by omega), hrow i hi, hrow 0 (by omega), GF.comb_length, GF.comb_length]
  · rw [hw, wordTo_getD _ _ _ _ (by have := hI i hi; omega), hrow i hi]

theorem chFs_len (f n : Nat) (word : List (List Nat)) (is : List Nat) : (chFs f n word is).length = is.length := by simp [chFs]
theorem chlen {is : List Nat} {n : Nat} (hp : is.Pairwise (· < ·)) (hlt : ∀ i ∈ is, i < n) : is.length ≤ n := by
  have key : ∀ (is : List Nat) (b : Nat), is.Pairwise (· < ·) → (∀ i ∈ is, b ≤ i ∧ i < n) → b + is.length ≤ n ∨ is = [] := by
    intro is
    induction is with
    | nil => intro b _ _; exact .inr rfl
    | cons x xs ih =>
      intro b hp h
      obtain ⟨h1, h2⟩ := List.pairwise_cons.1 hp
      have hx := h x (List.mem_cons_self ..)
      rcases ih (x + 1) h2 (fun i hi => ⟨h1 i hi, (h i (List.mem_cons_of_mem _ hi)).2⟩) with h3 | h3
      · left; simp; omega
      · left; subst h3; simp; omega
  rcases key is 0 hp (fun i hi => ⟨Nat.zero_le _, hlt i hi⟩) with h | h
  · omega
  · subst h; simp
theorem chsmall {f n k a : Nat} {data : List (List Nat)} {is : List Nat} (h : (data.getD 0 []).length ≤ 2000) : ∀ i, i < (chFs f n (wordTo k data a) is).length → (fragD (chFs f n (wordTo k data a) is) i).2.length ≤ 2000 := by
  intro i hi
  unfold chFs at hi ⊢
  unfold fragD
  simp at hi
  simp only [List.getD_eq_getElem?_getD, List.getElem?_map, List.getElem?_eq_getElem hi, Option.map_some, Option.getD_some]
  by_cases q : chIdx f n is[i] < a
  · have := word_rowlen (k := k) (data := data) q
    rw [List.getD_eq_getElem?_getD] at this
    rw [this]; exact h
  · rw [List.getElem?_eq_none (by rw [wordTo_len]; omega)]; simp
theorem chFs_at (f n : Nat) (word : List (List Nat)) (is : List Nat) {a : Nat} (ha : a < is.length) : fragD (chFs f n word is) a = (((chIdx f n (is.getD a 0) : Nat) : Int), word.getD (chIdx f n (is.getD a 0)) []) := by
  unfold fragD chFs
  simp [ha]
theorem chIdx_inj {f n i j : Nat} (hi : i < n) (hj : j < n) (h : chIdx f n i = chIdx f n j) : i = j := by
  unfold chIdx at h
  have h1 := Nat.sub_mod_eq_zero_of_mod_eq h
  have h2 := Nat.sub_mod_eq_zero_of_mod_eq h.symm
  rw [Nat.mod_eq_of_lt (by omega)] at h1 h2
  omega

theorem chosen_ok {k m f : Nat} {data : List (List Nat)} {is : List Nat} (hk : 1 ≤ k) (h8 : k + m ≤ 8) (hl : data.length = k) (hv : Level data) (hlow : Low data) (hp : is.Pairwise (· < ·)) (hlt : ∀ i ∈ is, i < k + m) (hkl : k ≤ is.length) :
    verdict k m (chFs f (k + m) (wordTo k data (k + m)) is) = 0 ∧ wordOf k m (chFs f (k + m) (wordTo k data (k + m)) is) = wordTo k data (k + m) := by
  have hget : ∀ a, a < is.length → is.getD a 0 < k + m := fun a ha => by
    have : is.getD a 0 ∈ is := by simp [ha]
    exact hlt _ this
  have hx : ∀ i, chIdx f (k + m) i < k + m := fun i => Nat.mod_lt _ (by omega)
  refine verdict_word hk h8 (by rw [chFs_len]; exact hkl) (fun i hi => ?_) ?_ hl hv hlow (fun i hi => ?_)
  · rw [chFs_len] at hi
    rw [chFs_at _ _ _ _ hi]
    have := hx (is.getD i 0)
    exact ⟨Int.natCast_nonneg _, by show ((chIdx f (k + m) (is.getD i 0) : Nat) : Int) < _; omega⟩
  · cases h : dupTo (chFs f (k + m) (wordTo k data (k + m)) is) (chFs f (k + m) (wordTo k data (k + m)) is).length with
    | false => rfl
    | true =>
      obtain ⟨a, b, hab, hb, he⟩ := (dupTo_iff _ _).1 h
      rw [chFs_len] at hb
      rw [chFs_at _ _ _ _ (by omega), chFs_at _ _ _ _ hb] at he
      have he' : chIdx f (k + m) (is.getD a 0) = chIdx f (k + m) (is.getD b 0) := Int.ofNat.inj he
      have := chIdx_inj (hget a (by omega)) (hget b hb) he'
      have hlt2 := List.pairwise_iff_getElem.1 hp a b (by omega) hb hab
      simp [show a < is.length by omega, hb] at this
      omega
  · rw [chFs_len] at hi
    rw [chFs_at _ _ _ _ hi]
    show (wordTo k data (k + m)).getD _ [] = GF.comb (genRow k ((chIdx f (k + m) (is.getD i 0) : Nat) : Int).toNat) data
    rw [wordTo_getD _ _ _ _ (hx _), Int.toNat_natCast]
end Go.Proofs.Ytojfeldafbabeaa
