/- Plain law of Cuts: the program's cuts are the reference's. -/
import Derived.Test.YthljjllcdocfiaaB6
set_option linter.unusedVariables false
set_option linter.unusedSimpArgs false
set_option linter.unnecessarySimpa false
namespace Go.Proofs.Ythljjllcdocfiaa
open Go Go.RowKit Go.MapKept

/- the drives -/
def dstStep (o : List Int) (c : Cp) : List Int := if cnt c && !hasI o c.2.1 then o ++ [c.2.1] else o
def dstL (l : List Cp) : List Int := l.foldl dstStep []
theorem dst_take {l : List Cp} {k : Nat} {c : Cp} (h : l[k]? = some c) : dstL (l.take (k + 1)) = dstStep (dstL (l.take k)) c := by
  unfold dstL
  rw [List.take_add_one, h, List.foldl_append]
  rfl
theorem dstStep_len (o : List Int) (c : Cp) : (dstStep o c).length ≤ o.length + 1 := by
  unfold dstStep
  split
  · simp
  · omega
theorem dst_len (l : List Cp) : ∀ k, (dstL (l.take k)).length ≤ k
  | 0 => by simp [dstL]
  | k + 1 => by
    cases h : l[k]? with
    | none =>
      have e : l.take (k + 1) = l.take k := by rw [List.take_add_one, h]; simp
      rw [e]
      have := dst_len l k
      omega
    | some c =>
      rw [dst_take h]
      have := dstStep_len (dstL (l.take k)) c
      have := dst_len l k
      omega
theorem insI_perm (o : List Int) (x : Int) : (insI o x).Perm (x :: o) := by
  unfold insI
  refine List.perm_middle.trans ?_
  rw [List.takeWhile_append_dropWhile]
theorem hasI_perm {o o' : List Int} (h : o.Perm o') (x : Int) : hasI o x = hasI o' x := by
  rw [Bool.eq_iff_iff, hasI_iff, hasI_iff]
  exact h.mem_iff
theorem drv_perm : ∀ (l : List Cp) (o o' : List Int), o.Perm o' → (l.foldl dstStep o).Perm (l.foldl drvStep o')
  | [], _, _, h => h
  | c :: l, o, o', h => by
    refine drv_perm l _ _ ?_
    unfold dstStep drvStep
    rw [hasI_perm h]
    split
    · exact (List.perm_append_singleton _ _).trans ((h.cons _).trans (insI_perm o' _).symm)
    · exact h
theorem mem_while {α : Type} {p : α → Bool} : ∀ {l : List α} {x : α}, x ∈ l.takeWhile p → p x = true
  | [], _, h => by simp at h
  | y :: l, x, h => by
    rw [List.takeWhile_cons] at h
    split at h
    · rename_i hy
      rcases List.mem_cons.1 h with rfl | h
      · exact hy
      · exact mem_while h
    · cases h
theorem drop_head {α : Type} {p : α → Bool} : ∀ {l : List α} {y : α} {r : List α}, l.dropWhile p = y :: r → p y = false
  | [], _, _, h => by simp at h
  | z :: l, y, r, h => by
    rw [List.dropWhile_cons] at h
    split at h
    · exact drop_head h
    · rename_i hz
      cases h
      simpa using hz
theorem insI_sorted {o : List Int} {x : Int} (h : o.Pairwise (· < ·)) (hx : x ∉ o) : (insI o x).Pairwise (· < ·) := by
  unfold insI
  have hs : (o.takeWhile (fun y => decide (y < x)) ++ o.dropWhile (fun y => decide (y < x))).Pairwise (· < ·) := by rw [List.takeWhile_append_dropWhile]; exact h
  rw [List.pairwise_append] at hs ⊢
  obtain ⟨h1, h2, h3⟩ := hs
  have hd : ∀ y ∈ o.dropWhile (fun y => decide (y < x)), x < y := by
    intro y hy
    have hne : y ≠ x := fun e => hx (by rw [← e]; exact (List.dropWhile_sublist _).mem hy)
    cases hq : o.dropWhile (fun y => decide (y < x)) with
    | nil => rw [hq] at hy; cases hy
    | cons z r =>
      have hz := drop_head hq
      simp at hz
      rw [hq] at hy h2
      rcases List.mem_cons.1 hy with rfl | hy
      · omega
      · have := List.rel_of_pairwise_cons h2 hy
        omega
  have ht : ∀ y ∈ o.takeWhile (fun y => decide (y < x)), y < x := fun y hy => by simpa using mem_while hy
  refine ⟨h1, List.pairwise_cons.2 ⟨hd, h2⟩, fun a ha b hb => ?_⟩
  rcases List.mem_cons.1 hb with rfl | hb
  · exact ht a ha
  · exact h3 a ha b hb
theorem drv_sorted' : ∀ (l : List Cp) (o : List Int), o.Pairwise (· < ·) → (l.foldl drvStep o).Pairwise (· < ·)
  | [], _, h => h
  | c :: l, o, h => by
    refine drv_sorted' l _ ?_
    unfold drvStep
    split
    · rename_i hc
      simp only [Bool.and_eq_true, Bool.not_eq_true'] at hc
      exact insI_sorted h (fun hm => by rw [hasI_iff.2 hm] at hc; cases hc.2)
    · exact h
theorem drv_sorted (l : List Cp) : (drvL l).Pairwise (· < ·) := drv_sorted' l [] List.Pairwise.nil
theorem sort_dst (l : List Cp) : (dstL l).mergeSort (fun x y => decide (x ≤ y)) = drvL l := by
  refine List.Perm.eq_of_pairwise (le := (· ≤ ·)) (fun a b _ _ h1 h2 => Int.le_antisymm h1 h2) ?_ ((drv_sorted l).imp (fun h => by omega)) ?_
  · have := List.pairwise_mergeSort (le := fun x y : Int => decide (x ≤ y)) (fun a b c h1 h2 => by simp at *; omega) (fun a b => by simp; omega) (dstL l)
    exact this.imp (fun h => by simpa using h)
  · exact (List.mergeSort_perm _ _).trans (drv_perm l [] [] (List.Perm.refl _))

/- smaller sets -/
def clr (m j : Nat) : Nat := m &&& (18446744073709551616 - (2 ^ j + 1))
theorem clr_bit {m j i : Nat} (hm : m < 18446744073709551616) (hj : j < 62) : (clr m j).testBit i = (m.testBit i && !decide (i = j)) := by
  unfold clr
  have h2 : 2 ^ j < 2 ^ 64 := Nat.pow_lt_pow_right (by decide) (by omega)
  have h3 := Nat.testBit_two_pow_sub_succ h2 i
  rw [show (2 : Nat) ^ 64 = 18446744073709551616 by decide] at h3
  rw [Nat.testBit_and, h3, Nat.testBit_two_pow]
  cases h : m.testBit i with
  | false => rfl
  | true =>
    have hi : i < 64 := bit_lt (n := 64) (by omega) h
    by_cases e : i = j
    · subst e; simp
    · simp [hi, e, show ¬ j = i from fun q => e q.symm]
theorem clr_le (m j : Nat) : clr m j ≤ m := Nat.and_le_left
theorem andnot_pow {m j : Nat} (hm : m < 4611686018427387904) (hj : j < 62) : bits .andNot .i64 (m : Int) (wrap64 (2 ^ j)) = ((clr m j : Nat) : Int) := by
  have h2 := pow_small hj
  have hc := clr_le m j
  unfold clr at *
  rw [two_pow_cast]
  generalize 2 ^ j = p at *
  rw [wrap64_small (by omega) (by omega)]
  show IntKind.i64.wrap ((BitVec.ofInt 64 (m : Int) &&& ~~~ BitVec.ofInt 64 (p : Int)).toNat : Int) = _
  rw [BitVec.toNat_and, BitVec.toNat_not, ofInt_u64 m (by omega), ofInt_u64 p (by omega)]
  rw [show 2 ^ 64 - 1 - p = 18446744073709551616 - (p + 1) by omega]
  generalize m &&& (18446744073709551616 - (p + 1)) = y at *
  simp [IntKind.wrap, IntKind.bits, IntKind.signed]
  omega
theorem mem_ch {d : List Int} {m : Nat} {x : Int} : x ∈ chL d m ↔ ∃ i, i < d.length ∧ m.testBit i = true ∧ d.getD i 0 = x := by
  unfold chL chK
  simp only [List.mem_map, List.mem_filter, List.mem_range]
  constructor
  · rintro ⟨i, ⟨h1, h2⟩, h3⟩; exact ⟨i, h1, h2, h3⟩
  · rintro ⟨i, h1, h2, h3⟩; exact ⟨i, ⟨h1, h2⟩, h3⟩
theorem nodup_get {d : List Int} (h : d.Nodup) {i j : Nat} (hi : i < d.length) (hj : j < d.length) (e : d.getD i 0 = d.getD j 0) : i = j := by
  have e1 : d.getD i 0 = d[i] := by simp [hi]
  have e2 : d.getD j 0 = d[j] := by simp [hj]
  rw [e1, e2] at e
  exact (List.getElem_inj h).1 e
theorem ch_nodup {d : List Int} (h : d.Nodup) (m : Nat) : (chL d m).Nodup := by
  unfold chL chK
  have hr : ((List.range d.length).filter m.testBit).Nodup := List.nodup_range.filter _
  rw [List.Nodup, List.pairwise_map]
  refine List.Pairwise.imp_of_mem ?_ hr
  intro a b ha hb hne e
  simp at ha hb
  exact hne (nodup_get h ha.1 hb.1 e)
theorem mem_cut {S : List Int} (h : S.Nodup) {j : Nat} (hj : j < S.length) {x : Int} : x ∈ cutI S j ↔ x ∈ S ∧ x ≠ S.getD j 0 := by
  have e0 : S.getD j 0 = S[j] := by simp [hj]
  have e : S = S.take j ++ S[j] :: S.drop (j + 1) := by simp
  rw [e0]
  unfold cutI
  have hn : (S.take j ++ S[j] :: S.drop (j + 1)).Nodup := by rw [← e]; exact h
  rw [List.nodup_append] at hn
  obtain ⟨_, h2, h3⟩ := hn
  have h4 := List.nodup_cons.1 h2
  constructor
  · intro hx
    rcases List.mem_append.1 hx with hx | hx
    · exact ⟨List.mem_of_mem_take hx, h3 x hx _ (List.mem_cons_self)⟩
    · exact ⟨List.mem_of_mem_drop hx, fun q => h4.1 (q ▸ hx)⟩
  · rintro ⟨hx, hne⟩
    rw [e] at hx
    rcases List.mem_append.1 hx with hx | hx
    · exact List.mem_append.2 (.inl hx)
    · rcases List.mem_cons.1 hx with hx | hx
      · exact absurd hx hne
      · exact List.mem_append.2 (.inr hx)
theorem surv_congr {k st : Int} {l : List Cp} {a b : List Int} (h : ∀ x, x ∈ a ↔ x ∈ b) : survF k st l a = survF k st l b := by
  have e : withoutL l a = withoutL l b := by
    unfold withoutL
    refine List.filter_congr fun c _ => ?_
    rw [show hasI a c.2.1 = hasI b c.2.1 by rw [Bool.eq_iff_iff, hasI_iff, hasI_iff]; exact h _]
  unfold survF
  rw [e]
/-- is the mask's loss fatal -/
def lostB (k st : Int) (l : List Cp) (d : List Int) (m : Nat) : Bool := !survF k st l (chL d m)
def leastB (k st : Int) (l : List Cp) (d : List Int) (m : Nat) : Bool := lostB k st l d m && (memL m).all fun i => !lostB k st l d (clr m i.toNat)
theorem least_cut {k st : Int} {l : List Cp} {d : List Int} (hd : d.Nodup) (hn : d.length ≤ 60) {m : Nat} (hm : m < 2 ^ d.length) : leastB k st l d m = cutB k st l (chL d m) := by
  unfold leastB cutB lostB
  congr 1
  have hmb : m < 18446744073709551616 := by
    have : 2 ^ d.length ≤ 2 ^ 60 := Nat.pow_le_pow_right (by decide) hn
    have e : (2 : Nat) ^ 60 = 1152921504606846976 := by decide
    omega
  have hmem : ∀ i : Nat, i < d.length → m.testBit i = true → ∀ x, x ∈ chL d (clr m i) ↔ x ∈ chL d m ∧ x ≠ d.getD i 0 := by
    intro i hi hb x
    rw [mem_ch, mem_ch]
    constructor
    · rintro ⟨j, hj, hjb, rfl⟩
      rw [clr_bit hmb (by omega)] at hjb
      simp at hjb
      exact ⟨⟨j, hj, hjb.1, rfl⟩, fun q => hjb.2 (nodup_get hd hj hi q)⟩
    · rintro ⟨⟨j, hj, hjb, rfl⟩, hne⟩
      refine ⟨j, hj, ?_, rfl⟩
      rw [clr_bit hmb (by omega), hjb]
      simp
      intro q
      exact hne (by rw [q])
  rw [Bool.eq_iff_iff, minB_iff, List.all_eq_true]
  have hS := ch_nodup hd m
  constructor
  · intro h j hj
    have hmj : (chL d m).getD j 0 ∈ chL d m := by
      have : (chL d m).getD j 0 = (chL d m)[j] := by simp [hj]
      rw [this]; exact List.getElem_mem _
    obtain ⟨i, hi, hb, he⟩ := mem_ch.1 hmj
    have := h (i : Int) (by rw [mem_bits hm (by omega)]; exact List.mem_map.2 ⟨i, List.mem_filter.2 ⟨List.mem_range.2 hi, hb⟩, rfl⟩)
    simp at this
    rw [← this]
    refine surv_congr fun x => ?_
    rw [mem_cut hS hj, hmem i hi hb, he]
  · intro h i hi
    rw [mem_bits hm (by omega)] at hi
    simp at hi
    obtain ⟨i, ⟨hi, hb⟩, rfl⟩ := hi
    have hx : d.getD i 0 ∈ chL d m := mem_ch.2 ⟨i, hi, hb, rfl⟩
    obtain ⟨j, hj, he⟩ := List.getElem_of_mem hx
    have h2 := h j hj
    simp
    rw [← h2]
    refine surv_congr fun x => ?_
    rw [mem_cut hS hj, hmem i hi hb, show (chL d m).getD j 0 = (chL d m)[j] by simp [hj], he]

/- the list of the cuts -/
/-- the cuts among the first masks, in the masks' order -/
def outK (k st : Int) (l : List Cp) (d : List Int) (n : Nat) : List (List Int) := ((List.range n).filter (leastB k st l d)).map (chL d)
theorem outK_succ (k st : Int) (l : List Cp) (d : List Int) (n : Nat) : outK k st l d (n + 1) = outK k st l d n ++ if leastB k st l d n then [chL d n] else [] := by
  unfold outK
  rw [List.range_succ, List.filter_append, List.map_append]
  cases h : leastB k st l d n <;> simp [h]
theorem outK_len (k st : Int) (l : List Cp) (d : List Int) (n : Nat) : (outK k st l d n).length ≤ n := by
  unfold outK
  rw [List.length_map]
  have := List.length_filter_le (leastB k st l d) (List.range n)
  simpa using this
theorem insS_perm (o : List (List Int)) (x : List Int) : (insS o x).Perm (x :: o) := by
  unfold insS
  refine List.perm_middle.trans ?_
  rw [List.takeWhile_append_dropWhile]
theorem cutsR_perm {k st : Int} {l : List Cp} {d : List Int} (hd : d.Nodup) (hl : d.length ≤ 60) : ∀ n, n ≤ 2 ^ d.length → (cutsR k st l d n).Perm (outK k st l d n)
  | 0, _ => List.Perm.refl _
  | n + 1, h => by
    rw [outK_succ, least_cut hd hl (by omega)]
    unfold cutsR
    split
    · exact (insS_perm _ _).trans (((cutsR_perm hd hl n (by omega)).cons _).trans (List.perm_append_singleton _ _).symm)
    · rw [List.append_nil]
      exact cutsR_perm hd hl n (by omega)
theorem insS_sorted {o : List (List Int)} {x : List Int} (h : o.Pairwise (fun a b => lessL b a = false)) : (insS o x).Pairwise (fun a b => lessL b a = false) := by
  unfold insS
  have hs : (o.takeWhile (fun y => lessL y x) ++ o.dropWhile (fun y => lessL y x)).Pairwise (fun a b => lessL b a = false) := by rw [List.takeWhile_append_dropWhile]; exact h
  rw [List.pairwise_append] at hs ⊢
  obtain ⟨h1, h2, h3⟩ := hs
  have hd : ∀ y ∈ o.dropWhile (fun y => lessL y x), lessL y x = false := by
    intro y hy
    cases hq : o.dropWhile (fun y => lessL y x) with
    | nil => rw [hq] at hy; cases hy
    | cons z r =>
      have hz := drop_head hq
      rw [hq] at hy h2
      rcases List.mem_cons.1 hy with rfl | hy
      · exact hz
      · exact less_ntrans (List.rel_of_pairwise_cons h2 hy) hz
  have ht : ∀ y ∈ o.takeWhile (fun y => lessL y x), lessL x y = false := fun y hy => by
    have h4 := mem_while hy
    cases h5 : lessL x y with
    | false => rfl
    | true => have h6 := less_trans h4 h5; rw [less_irrefl] at h6; cases h6
  refine ⟨h1, List.pairwise_cons.2 ⟨hd, h2⟩, fun a ha b hb => ?_⟩
  rcases List.mem_cons.1 hb with rfl | hb
  · exact ht a ha
  · exact h3 a ha b hb
theorem cutsR_sorted {k st : Int} {l : List Cp} {d : List Int} : ∀ n, (cutsR k st l d n).Pairwise (fun a b => lessL b a = false)
  | 0 => List.Pairwise.nil
  | n + 1 => by
    unfold cutsR
    split
    · exact insS_sorted (cutsR_sorted n)
    · exact cutsR_sorted n
theorem sorted_cuts {k st : Int} {l : List Cp} {d : List Int} (hd : d.Nodup) (hl : d.length ≤ 60) {L : List (List Int)} (hp : L.Perm (outK k st l d (2 ^ d.length))) (hs : L.Pairwise (fun a b => lessL b a = false)) : L = cutsR k st l d (2 ^ d.length) :=
  List.Perm.eq_of_pairwise (le := fun a b => lessL b a = false) (fun a b _ _ h1 h2 => less_total h2 h1) hs (cutsR_sorted _) (hp.trans (cutsR_perm hd hl _ (Nat.le_refl _)).symm)
end Go.Proofs.Ythljjllcdocfiaa
