/- The walks of Join, the program's and the reference's. -/
import Derived.Test.YtojfeldafbabeaaZr
import Derived.Test.YtojfeldafbabeaaLo
import Derived.Test.YtojfeldafbabeaaI3
set_option linter.unusedVariables false
set_option linter.unusedSimpArgs false
set_option linter.unnecessarySimpa false
namespace Go.Proofs.Ytojfeldafbabeaa
open Go.RowKit Go.Mem Go.Deep

def flatTo (rows : List (List Nat)) (j : Nat) : List Nat := (rows.take j).flatten
theorem flatTo_succ {rows : List (List Nat)} {j : Nat} (hj : j < rows.length) : flatTo rows (j + 1) = flatTo rows j ++ rows.getD j [] := by
  unfold flatTo
  rw [List.take_succ_eq_append_getElem hj, List.flatten_append]
  simp [hj]
theorem flatTo_len {rows : List (List Nat)} (h : Short rows) : ∀ j, j ≤ rows.length → (flatTo rows j).length ≤ j * 2000
  | 0, _ => by simp [flatTo]
  | j + 1, hj => by
    have ih := flatTo_len h j (by omega)
    have := h.2 j (by omega)
    rw [flatTo_succ (by omega), List.length_append]
    omega
theorem flatTo_all (rows : List (List Nat)) : flatTo rows rows.length = rows.flatten := by unfold flatTo; rw [List.take_length]
theorem flatTo_lt {w : World} {v : Value} {rows : List (List Nat)} (h : Mat w v rows) (j : Nat) : ∀ x ∈ flatTo rows j, x < 256 := fun x hx => by
  unfold flatTo at hx
  obtain ⟨l, hl, hx⟩ := List.mem_flatten.1 hx
  obtain ⟨i, hi, rfl⟩ := List.getElem_of_mem (List.mem_of_mem_take hl)
  obtain ⟨k, hk, rfl⟩ := List.getElem_of_mem hx
  have := h.lt i k
  simpa [hi, hk] using this

theorem app_empty_run {W : World} {B : Nat} {v : Value} {n : Nat} {xs : List Value} {p : Option Addr} {c : Nat} (ty : TypeId) (hown : W.ownsRow B 5 1 v n xs) : (Builtin.append_ #[31, 31] ty #[v, .slice p 0 c]).run Try.prog W = .ok v W := by
  obtain ⟨i, hi, hz, hsz, hby⟩ := info_parts info5
  have ht := Try.underlying31
  have hf : (Builtin.firstCells i.size 0 (.slice p 0 c)).run Try.prog W = .ok #[] W := by
    cases p <;> simp [Builtin.firstCells, loadCells, loadCellsFrom]
  rcases hown.2 with ⟨rfl, rfl⟩ | ⟨g, cap, cur, rfl, hbg, hg, hnc, hcm, hcs, htake⟩
  · simp [Builtin.append_, run_underlying ht, sizeOf, typeInfo, hi, Builtin.lenOf, hf]
  · simp [Builtin.append_, run_underlying ht, sizeOf, typeInfo, hi, Builtin.lenOf, hf, hnc, storeCells]

theorem bytes_of_owned {w : World} {B g T cap k c' : Nat} {l : List Nat} (h : w.ownsRow B 5 1 (.slice (some ⟨g, 0, none⟩) T cap) T (u8s l)) (hl : l.length = T) (hx : ∀ x ∈ l, x < 256) (hT : T ≤ 100000) (hk : k ≤ T) (hc : k ≤ c') (hc' : c' ≤ cap) : Bytes w (.slice (some ⟨g, 0, none⟩) k c') (l.take k) := by
  rcases h.2 with ⟨h0, _⟩ | ⟨g', cap', cur, hv, hB, hg, h1, h2, h3, h4⟩
  · cases h0
  · cases hv
    have hkl : (l.take k).length = k := by simp; omega
    refine ⟨⟨some ⟨g, 0, none⟩, c', by rw [len_u8s, hkl], by rw [len_u8s, hkl]; exact hc, by omega, by rw [len_u8s, hkl]; omega, .inr ⟨g, 0, rfl, (Array.getElem?_eq_some_iff.1 hg).1, fun i hi => ?_⟩⟩, fun x hxm => hx x (List.mem_of_mem_take hxm)⟩
    rw [len_u8s, hkl] at hi
    have h5 : (u8s l)[i]? = cur.toList[i]? := by rw [← h4, List.getElem?_take, if_pos (by omega)]
    simp only [World.cell?, hg, Nat.zero_add]
    have h6 : cur.toList[i]? = cur[i]? := by simp
    show cur[i]? = _
    rw [← h6, ← h5]
    simp [u8s, List.getElem?_take, hi]

def JoinPost (n : Int) (rows : List (List Nat)) (w : World) (e : Ending) (w' : World) : Prop :=
  (0 ≤ n ∧ n ≤ rows.flatten.length ∧ ∃ v, e = .returned (.tuple #[v, .int .i64 0]) ∧ Bytes w' v (rows.flatten.take n.toNat) ∧ Below w.heap.size w w') ∨ (¬ (0 ≤ n ∧ n ≤ rows.flatten.length) ∧ NilPost 1 w e w')

set_option maxHeartbeats 2000000 in
theorem join_any (n : Int) (rows : List (List Nat)) (vr : Value) (w : World) (hr : Mat w vr rows) (hs : Short rows) : Calls Try.prog 28 #[vr, .int .i64 n] w (JoinPost n rows w) := by
  obtain ⟨ra, rcap, rfl, _⟩ := hr.open
  obtain ⟨m, hm⟩ : ∃ m, m = rows.length := ⟨_, rfl⟩
  have hm30 : m ≤ 30 := by rw [hm]; exact hs.1
  rw [← hm] at hr ⊢
  obtain ⟨i5, hi5, hz50, hz51, hz52⟩ := info_parts info5
  have HR := Lib.hid hr
  have HS := Lib.hid hs
  have HM := Lib.hid hm
  clear hr hs hm
  go_enter Try.func28, Try.ntmps28
  go_wp2_with fail
  go_loopw [6, 11] (fun v i wr => ∃ (j T : Nat), j ≤ m ∧ i = .int .i64 j ∧ Below w.heap.size w wr ∧ T ≤ j * 2000 ∧ T = (flatTo rows j).length ∧ wr.ownsRow w.heap.size 5 1 v T (u8s (flatTo rows j))) (fun _ i _ => m - (intOf i).toNat)
  case atStart => exact ⟨0, 0, by omega, rfl, Below.refl _ _, by omega, by simp [flatTo], World.ownsRow_nil _ _ _ _⟩
  case round =>
    rename World => wr
    obtain ⟨j, T, hj, rfl, hbr, hT, hTl, ho⟩ := hrel
    have HB := Lib.hid hbr
    have HTL := Lib.hid hTl
    have HO := Lib.hid ho
    have hgr := hbr.size
    have hT6 : T ≤ 60000 := by omega
    clear hbr hTl ho
    by_cases hjm : j < m
    · obtain ⟨ob, oo, xk, he, hob, hxk, hbk⟩ := HR.out.cell (i := j) (by have := HM.out; omega)
      subst he
      obtain ⟨l, hl⟩ : ∃ l, l = rows.getD j [] := ⟨_, rfl⟩
      rw [← hl] at hbk
      have hll : l.length ≤ 2000 := by rw [hl]; exact HS.out.2 j (by have := HM.out; omega)
      have hxk' := (HB.out.cell (p := ⟨ob, oo + j, none⟩) hob).trans hxk
      obtain ⟨ka, kcap, rfl, _⟩ := hbk.open
      have HBK := Lib.hid (hbk.below HB.out (Nat.le_refl _))
      have HFS := Lib.hid (show flatTo rows (j + 1) = flatTo rows j ++ l by rw [flatTo_succ (by have := HM.out; omega), hl])
      obtain ⟨L, hL⟩ : ∃ L, L = l.length := ⟨_, rfl⟩
      rw [← hL] at hxk' HBK hll
      have HLL := Lib.hid hL
      clear hxk hbk hl hL
      by_cases hL0 : L = 0
      · subst hL0
        go_wp2_with (at_builtin; refine Lib.wpList_append_run _ rfl (.tmp 15) (.tmp 16) 31 31 rfl _ _ rfl rfl _ _ (app_empty_run _ HO.out) ?_)
        go_roundw
        case rel => exact ⟨j + 1, T, by omega, by go_num, HB.out, Nat.le_trans hT (Nat.mul_le_mul_right 2000 (Nat.le_succ j)), by have h := congrArg List.length HFS.out; rw [List.length_append] at h; have := HTL.out; have := HLL.out; omega, by rw [HFS.out, List.eq_nil_of_length_eq_zero HLL.out.symm, List.append_nil]; exact HO.out⟩
        case measure => simp [intOf]; omega
      · obtain ⟨kb, ko, rfl, hkb, _⟩ := HBK.out.cell (i := 0) (by have := HLL.out; omega)
        go_wp2_with (at_builtin; refine wpList_append_own _ rfl (.tmp 15) (.tmp 16) 31 rfl w.heap.size 5 i5 (.int .u8 0) 1 1 Try.underlying31 hi5 hz50 hz51 hz52 rfl (by decide) _ T (u8s (flatTo rows j)) rfl HO.out ⟨kb, ko, none⟩ L kcap (u8s l) rfl (by rw [len_u8s, ← HLL.out]; omega) (by intro j u hu; exact bytes_news HBK.out j u hu) (by intro u hu; exact u8s_one u hu) (by unfold maxLen; omega) (by omega) hgr ?_; intro v5 w5 hown5 hgrow5 hnil5; have HO5 := Lib.hid (And.intro hown5 hgrow5); clear hown5 hgrow5 hnil5)
        go_roundw
        case rel => exact ⟨j + 1, T + L, by omega, by go_num, HB.out.grown HO5.out.2 hgr (fun b hb => (HO.out.lt b hb).1), by omega, by rw [HFS.out, List.length_append, ← HTL.out, ← HLL.out], by rw [HFS.out]; have h := HO5.out.1; unfold u8s at h ⊢; rw [List.map_append]; exact h⟩
        case measure => simp [intOf]; omega
    · obtain rfl : j = m := by omega
      have hfl : flatTo rows j = rows.flatten := by rw [HM.out]; exact flatTo_all rows
      have HFL := Lib.hid hfl
      have HLT := Lib.hid (flatTo_lt HR.out j)
      have hTf : T = rows.flatten.length := by rw [HTL.out, hfl]
      have HTF := Lib.hid hTf
      clear hfl hTf
      by_cases hn0 : n < 0
      · have hd : decide (n < 0) = true := by simpa using hn0
        go_wp2_with fail
        go_ret2
        exact .inr ⟨by omega, rfl, HB.out⟩
      · have hd : decide (n < 0) = false := by simpa using hn0
        obtain ⟨q, rfl⟩ : ∃ q : Nat, n = q := ⟨n.toNat, by omega⟩
        rcases HO.out.2 with ⟨hv, hT0⟩ | ⟨g, cap, cur, hv, _, _, hTc, _⟩
        · subst hv hT0
          by_cases hq : 0 < q
          · have hd2 : decide (0 < (q : Int)) = true := by simpa using hq
            go_wp2_with fail
            go_ret2
            exact .inr ⟨by have := HTF.out; omega, rfl, HB.out⟩
          · obtain rfl : q = 0 := by omega
            have hd2 : decide ((0 : Int) < ((0 : Nat) : Int)) = false := rfl
            go_wp2_with fail
            go_ret2
            exact .inl ⟨by omega, by omega, _, rfl, by simpa using Bytes.nil wr, HB.out⟩
        · subst hv
          by_cases hq : T < q
          · have hd2 : decide ((T : Int) < (q : Int)) = true := by simpa using hq
            go_wp2_with fail
            go_ret2
            exact .inr ⟨by have := HTF.out; omega, rfl, HB.out⟩
          · have hd2 : decide ((T : Int) < (q : Int)) = false := by simpa using hq
            have hqT : q ≤ T := by omega
            have hqc : q ≤ cap := by omega
            go_wp2_with fail
            go_ret2
            exact .inl ⟨by omega, by have := HTF.out; omega, _, rfl, by rw [Int.toNat_natCast, ← HFL.out]; exact bytes_of_owned HO.out HTL.out.symm HLT.out (by omega) hqT (Nat.le_refl _) (by omega), HB.out⟩

set_option maxHeartbeats 2000000 in
theorem refJoin_any (n : Int) (rows : List (List Nat)) (vr : Value) (w : World) (hr : Mat w vr rows) (hs : Short rows) : Calls Try.prog 29 #[vr, .int .i64 n] w (JoinPost n rows w) := by
  obtain ⟨ra, rcap, rfl, _⟩ := hr.open
  obtain ⟨m, hm⟩ : ∃ m, m = rows.length := ⟨_, rfl⟩
  have hm30 : m ≤ 30 := by rw [hm]; exact hs.1
  rw [← hm] at hr ⊢
  obtain ⟨i5, hi5, hz50, hz51, hz52⟩ := info_parts info5
  have HR := Lib.hid hr
  have HS := Lib.hid hs
  have HM := Lib.hid hm
  clear hr hs hm
  go_enter Try.func29, Try.ntmps29
  go_wp2_with fail
  go_loopw [6, 7] (fun v i wr => ∃ (j T : Nat), j ≤ m ∧ i = .int .i64 j ∧ Below w.heap.size w wr ∧ T ≤ j * 2000 ∧ T = (flatTo rows j).length ∧ wr.ownsRow w.heap.size 5 1 v T (u8s (flatTo rows j))) (fun _ i _ => m - (intOf i).toNat)
  case atStart => exact ⟨0, 0, by omega, rfl, Below.refl _ _, by omega, by simp [flatTo], World.ownsRow_nil _ _ _ _⟩
  case round =>
    rename World => wr
    obtain ⟨j, T, hj, rfl, hbr, hT, hTl, ho⟩ := hrel
    have HB := Lib.hid hbr
    have HTL := Lib.hid hTl
    have HO := Lib.hid ho
    have hgr := hbr.size
    have hT6 : T ≤ 60000 := by omega
    clear hbr hTl ho
    by_cases hjm : j < m
    · obtain ⟨ob, oo, xk, he, hob, hxk, hbk⟩ := HR.out.cell (i := j) (by have := HM.out; omega)
      subst he
      obtain ⟨l, hl⟩ : ∃ l, l = rows.getD j [] := ⟨_, rfl⟩
      rw [← hl] at hbk
      have hll : l.length ≤ 2000 := by rw [hl]; exact HS.out.2 j (by have := HM.out; omega)
      have hxk' := (HB.out.cell (p := ⟨ob, oo + j, none⟩) hob).trans hxk
      obtain ⟨ka, kcap, rfl, _⟩ := hbk.open
      have HBK := Lib.hid (hbk.below HB.out (Nat.le_refl _))
      have HFS := Lib.hid (show flatTo rows (j + 1) = flatTo rows j ++ l by rw [flatTo_succ (by have := HM.out; omega), hl])
      obtain ⟨L, hL⟩ : ∃ L, L = l.length := ⟨_, rfl⟩
      rw [← hL] at hxk' HBK hll
      have HLL := Lib.hid hL
      clear hxk hbk hl hL
      by_cases hL0 : L = 0
      · subst hL0
        go_wp2_with (at_builtin; refine Lib.wpList_append_run _ rfl (.tmp 14) (.tmp 18) 31 31 rfl _ _ rfl rfl _ _ (app_empty_run _ HO.out) ?_)
        go_roundw
        case rel => exact ⟨j + 1, T, by omega, by go_num, HB.out, Nat.le_trans hT (Nat.mul_le_mul_right 2000 (Nat.le_succ j)), by have h := congrArg List.length HFS.out; rw [List.length_append] at h; have := HTL.out; have := HLL.out; omega, by rw [HFS.out, List.eq_nil_of_length_eq_zero HLL.out.symm, List.append_nil]; exact HO.out⟩
        case measure => simp [intOf]; omega
      · obtain ⟨kb, ko, rfl, hkb, _⟩ := HBK.out.cell (i := 0) (by have := HLL.out; omega)
        go_wp2_with (at_builtin; refine wpList_append_own _ rfl (.tmp 14) (.tmp 18) 31 rfl w.heap.size 5 i5 (.int .u8 0) 1 1 Try.underlying31 hi5 hz50 hz51 hz52 rfl (by decide) _ T (u8s (flatTo rows j)) rfl HO.out ⟨kb, ko, none⟩ L kcap (u8s l) rfl (by rw [len_u8s, ← HLL.out]; omega) (by intro j u hu; exact bytes_news HBK.out j u hu) (by intro u hu; exact u8s_one u hu) (by unfold maxLen; omega) (by omega) hgr ?_; intro v5 w5 hown5 hgrow5 hnil5; have HO5 := Lib.hid (And.intro hown5 hgrow5); clear hown5 hgrow5 hnil5)
        go_roundw
        case rel => exact ⟨j + 1, T + L, by omega, by go_num, HB.out.grown HO5.out.2 hgr (fun b hb => (HO.out.lt b hb).1), by omega, by rw [HFS.out, List.length_append, ← HTL.out, ← HLL.out], by rw [HFS.out]; have h := HO5.out.1; unfold u8s at h ⊢; rw [List.map_append]; exact h⟩
        case measure => simp [intOf]; omega
    · obtain rfl : j = m := by omega
      have hfl : flatTo rows j = rows.flatten := by rw [HM.out]; exact flatTo_all rows
      have HFL := Lib.hid hfl
      have HLT := Lib.hid (flatTo_lt HR.out j)
      have hTf : T = rows.flatten.length := by rw [HTL.out, hfl]
      have HTF := Lib.hid hTf
      clear hfl hTf
      by_cases hn0 : n < 0
      · have hd : decide (n < 0) = true := by simpa using hn0
        go_wp2_with fail
        go_ret2
        exact .inr ⟨by omega, rfl, HB.out⟩
      · have hd : decide (n < 0) = false := by simpa using hn0
        obtain ⟨q, rfl⟩ : ∃ q : Nat, n = q := ⟨n.toNat, by omega⟩
        rcases HO.out.2 with ⟨hv, hT0⟩ | ⟨g, cap, cur, hv, _, _, hTc, _⟩
        · subst hv hT0
          by_cases hq : 0 < q
          · have hd2 : decide (0 < (q : Int)) = true := by simpa using hq
            go_wp2_with fail
            go_ret2
            exact .inr ⟨by have := HTF.out; omega, rfl, HB.out⟩
          · obtain rfl : q = 0 := by omega
            have hd2 : decide ((0 : Int) < ((0 : Nat) : Int)) = false := rfl
            go_wp2_with fail
            go_ret2
            exact .inl ⟨by omega, by omega, _, rfl, by simpa using Bytes.nil wr, HB.out⟩
        · subst hv
          by_cases hq : T < q
          · have hd2 : decide ((T : Int) < (q : Int)) = true := by simpa using hq
            go_wp2_with fail
            go_ret2
            exact .inr ⟨by have := HTF.out; omega, rfl, HB.out⟩
          · have hd2 : decide ((T : Int) < (q : Int)) = false := by simpa using hq
            have hqT : q ≤ T := by omega
            have hqc : q ≤ cap := by omega
            go_wp2_with fail
            go_ret2
            exact .inl ⟨by omega, by have := HTF.out; omega, _, rfl, by rw [Int.toNat_natCast, ← HFL.out]; exact bytes_of_owned HO.out HTL.out.symm HLT.out (by omega) hqT hqc (Nat.le_refl _), HB.out⟩
end Go.Proofs.Ytojfeldafbabeaa
