/- The walk of the reference's Split. -/
import Derived.Test.YtojfeldafbabeaaSp
set_option linter.unusedVariables false
set_option linter.unusedSimpArgs false
set_option linter.unnecessarySimpa false
namespace Go.Proofs.Ytojfeldafbabeaa
open Go.RowKit Go.Mem Go.Deep

theorem spl_len (k s : Nat) (l : List Nat) : (spl k s l).length = k := by simp [spl]
theorem spl_succ (k s : Nat) (l : List Nat) : spl (k + 1) s l = spl k s l ++ [splRow s l k] := by simp [spl, List.range_succ]
theorem splRow_zero (l : List Nat) (i : Nat) : splRow 0 l i = [] := rfl
theorem kept_empty {w : World} {B : Nat} {a : Option Addr} : Kept w B 5 (.slice a 0 0) [] := ⟨⟨⟨a, 0, rfl, Nat.le_refl _, by decide, by decide, .inl rfl⟩, by simp⟩, .inl rfl⟩
theorem row_of_all {w : World} {B g P cap m0 q j s Pj : Nat} {l : List Nat} (h : w.ownsRow B 5 1 (.slice (some ⟨g, 0, none⟩) P cap) P (u8s l ++ List.replicate m0 (.int .u8 0))) (hq : l.length = q) (hqm : q + m0 = P) (hPj : Pj = j * s) (hP : Pj + s ≤ P) (hs : s ≤ 500) (hx : ∀ x ∈ l, x < 256) :
    Bytes w (.slice (some ⟨g, Pj, none⟩) s s) (splRow s l j) := by
  rcases h.2 with ⟨h0, _⟩ | ⟨g', cap', cur, hv, hB, hg, h1, h2, h3, h4⟩
  · cases h0
  · cases hv
    refine ⟨⟨some ⟨g, Pj, none⟩, s, by rw [len_u8s, splRow_len], by rw [len_u8s, splRow_len]; exact Nat.le_refl _, by unfold maxLen; omega, by rw [len_u8s, splRow_len]; omega, .inr ⟨g, Pj, rfl, (Array.getElem?_eq_some_iff.1 hg).1, fun t ht => ?_⟩⟩, splRow_lt hx s j⟩
    rw [len_u8s, splRow_len] at ht
    have h5 : (u8s l ++ List.replicate m0 (Value.int .u8 0))[Pj + t]? = cur.toList[Pj + t]? := by rw [← h4, List.getElem?_take, if_pos (by omega)]
    have h6 : cur.toList[Pj + t]? = cur[Pj + t]? := by simp
    simp only [World.cell?, hg]
    show cur[Pj + t]? = _
    rw [← h6, ← h5]
    have h7 : (u8s (splRow s l j))[t]? = some (.int .u8 ((l.getD (Pj + t) 0 : Nat) : Int)) := by simp [u8s, splRow, ht, hPj]
    rw [h7]
    by_cases hlt : Pj + t < l.length
    · rw [List.getElem?_append_left (by rw [len_u8s]; exact hlt)]
      simp [u8s, hlt]
    · rw [List.getElem?_append_right (by rw [len_u8s]; omega), len_u8s, List.getElem?_replicate, if_pos (by omega), List.getD_eq_getElem?_getD, List.getElem?_eq_none (by omega)]
      rfl
theorem app_bytes_run {W : World} {B : Nat} {v : Value} {n q lcap : Nat} {xs : List Value} {la : Option Addr} {l : List Nat} (ty : TypeId) (hown : W.ownsRow B 5 1 v n xs) (hb : Bytes W (.slice la q lcap) l) (hl : l.length = q) (hB : B ≤ W.heap.size) (hs : n + q ≤ 100000) :
    ∃ v' w', (Builtin.append_ #[31, 31] ty #[v, .slice la q lcap]).run Try.prog W = .ok v' w' ∧ w'.ownsRow B 5 1 v' (n + q) (xs ++ u8s l) ∧ W.grownBy w' v.ownBlock := by
  obtain ⟨i5, hi5, hz50, hz51, hz52⟩ := info_parts info5
  by_cases hq : q = 0
  · subst hq
    have hl0 : l = [] := List.eq_nil_of_length_eq_zero hl
    subst hl0
    exact ⟨v, W, app_empty_run ty hown, by simpa [u8s] using hown, ⟨rfl, rfl, rfl, Nat.le_refl _, fun _ _ _ => rfl⟩⟩
  · obtain ⟨kb, ko, rfl, _, _⟩ := hb.cell (i := 0) (by omega)
    obtain ⟨v', w', h1, h2, h3, _⟩ := run_append_own (P := Try.prog) (w := W) B 31 ty 5 i5 (.int .u8 0) 1 1 Try.underlying31 hi5 hz50 hz51 hz52 rfl (by decide) v n xs hown ⟨kb, ko, none⟩ q lcap (u8s l) (by rw [len_u8s, hl]; omega) (fun j u hu => bytes_news hb j u hu) (fun u hu => u8s_one u hu) (by unfold maxLen; omega) (by omega) hB
    exact ⟨v', w', h1, h2, h3⟩

set_option maxHeartbeats 400000 in
theorem refSplit_ok (k s : Nat) (l : List Nat) (vl : Value) (w : World) (hl : Bytes w vl l) (h1 : 1 ≤ k) (h6 : k ≤ 6) (hs : s ≤ 500) (hl2 : l.length ≤ 2000) :
    Calls Try.prog 27 #[.int .i64 k, .int .i64 s, vl] w (SplitPost k s l w) := by
  obtain ⟨la, lcap, rfl, _⟩ := hl.open
  obtain ⟨q, hq⟩ : ∃ q, q = l.length := ⟨_, rfl⟩
  obtain ⟨P, hP⟩ : ∃ P : Nat, P = k * s := ⟨_, rfl⟩
  have hPi : (k : Int) * (s : Int) = (P : Int) := by rw [hP]; simp
  have hP3 : P ≤ 3000 := by rw [hP]; exact Nat.le_trans (Nat.mul_le_mul h6 hs) (by decide)
  have hpw : IntKind.i64.wrap (P : Int) = P := IntWalk.i64_in _ (by omega)
  rw [← hq] at hl hl2 ⊢
  have hd1 : decide ((k : Int) < 1) = false := by simp; omega
  have hd2 : decide ((6 : Int) < k) = false := by simp; omega
  have hd3 : decide ((s : Int) < 0) = false := by simp
  have hd4 : decide ((4096 : Int) < s) = false := by simp; omega
  have HL := Lib.hid hl
  have HQ := Lib.hid hq
  have HP := Lib.hid hP
  have hrange : Hid (1 ≤ (k : Int) ∧ (k : Int) ≤ 6 ∧ 0 ≤ (s : Int) ∧ (s : Int) ≤ 4096) := Lib.hid (by omega)
  clear hl hq hP
  by_cases hbig : P < q
  · have hd5 : decide ((P : Int) < q) = true := by simp; omega
    go_enter Try.func27, Try.ntmps27
    go_wp2_with fail
    go_ret2
    exact .inr (.inl ⟨hrange.out, by rw [hPi, ← HQ.out]; omega, rfl, Below.refl _ _⟩)
  · have hd5 : decide ((P : Int) < q) = false := by simp; omega
    obtain ⟨m0, hm0⟩ : ∃ m0, m0 = P - q := ⟨_, rfl⟩
    have hsub : (P : Int) - (q : Int) = (m0 : Int) := by omega
    have hqm : q + m0 = P := by omega
    obtain ⟨i5, hi5, hz50, hz51, hz52⟩ := info_parts info5
    have HLX := Lib.hid HL.out.2
    clear hm0
    obtain ⟨v1, w1, hr1, ho1, hg1⟩ := app_bytes_run 31 (World.ownsRow_nil w w.heap.size 5 1) HL.out HQ.out.symm (Nat.le_refl _) (by omega)
    have hb1 : Below w.heap.size w w1 := (Below.refl _ w).grown hg1 (Nat.le_refl _) (by intro b hb; simp [Value.ownBlock] at hb)
    rw [Nat.zero_add, List.nil_append] at ho1
    obtain ⟨v2, w2, hr2, ho2, hg2⟩ := app_zeros_run (m := m0) 31 ho1 hb1.size (by omega)
    have hb2 : Below w.heap.size w w2 := hb1.grown hg2 hb1.size (fun b hb => (ho1.lt b hb).1)
    rw [hqm] at ho2
    have H1 := Lib.hid hr1
    have H2 := Lib.hid hr2
    have HO2 := Lib.hid ho2
    have HB2 := Lib.hid hb2
    clear hr1 hr2 ho2 hb2 ho1 hb1 hg1 hg2
    go_enter Try.func27, Try.ntmps27
    go_wp2_with (first | (at_builtin; refine Lib.wpList_append_run _ rfl (.const (.slice none 0 0)) (.tmp 31) 31 31 rfl _ _ rfl rfl _ _ H1.out ?_) | (at_builtin; go_loud (refine Lib.wpList_append_run _ rfl (.tmp 32) (.tmp 38) 31 3 rfl _ _ rfl rfl _ _ H2.out ?_)))
    have hPQ : Hid ((q : Int) ≤ (k : Int) * (s : Int)) := Lib.hid (by rw [hPi]; omega)
    rcases HO2.out.2 with ⟨hv, hP0⟩ | ⟨g, cap, cur, hv, hBg, hgb, hPc, _⟩
    · subst hv
      have hs0 : s = 0 := by
        have h := HP.out
        rw [hP0] at h
        rcases Nat.mul_eq_zero.1 h.symm with h | h
        · omega
        · exact h
      subst hs0 hP0
      simp only [show ((0 : Nat) : Int) = 0 from rfl]
      go_wp2_with fail
      go_loopw [9, 10] (fun v i wr => ∃ (j : Nat) (vs : List Value), j ≤ k ∧ i = .int .i64 j ∧ Below w2.heap.size w2 wr ∧ RowsO wr w2.heap.size 31 5 v vs (spl j 0 l)) (fun _ i _ => k - (intOf i).toNat)
      case atStart => exact ⟨0, [], by omega, rfl, Below.refl _ _, RowsO.nil _ _ _ _⟩
      case round =>
        rename World => wr
        obtain ⟨j, vs, hj, rfl, hbr, hrow⟩ := hrel
        have HB := Lib.hid hbr
        have HR := Lib.hid hrow
        have hgr := hbr.size
        clear hbr hrow
        by_cases hjk : j < k
        · skip
          go_wp2_with (at_builtin; go_loud (refine app_row' (w0 := w2) (W := wr) rfl (.tmp 45) (.tmp 61) rfl (l := splRow 0 l j) j HR.out (spl_len _ _ _) (by omega) (by rw [splRow_zero]; exact kept_empty) HB.out hgr (by rfl) rfl rfl ?_); intro v' w4 h4)
          go_roundw
          case rel => exact ⟨j + 1, _, by omega, by go_num, h4.out.2.1, by rw [spl_succ]; exact h4.out.1⟩
          case measure => simp [intOf]; omega
        · obtain rfl : j = k := by omega
          go_wp2_with fail
          go_ret2
          have g2 := HB2.out.size
          exact .inr (.inr ⟨hrange.out, by have := HQ.out; have := hPQ.out; omega, _, rfl, by have h := HR.out.mat (by rw [spl_len]; omega); simpa using h, HB2.out.trans (HB.out.mono g2)⟩)
    · subst hv
      have hglt : g < w2.heap.size := (Array.getElem?_eq_some_iff.1 hgb).1
      clear hgb
      by_cases hs0 : s = 0
      · subst hs0
        simp only [show ((0 : Nat) : Int) = 0 from rfl]
        go_wp2_with fail
        go_loopw [9, 10] (fun v i wr => ∃ (j : Nat) (vs : List Value), j ≤ k ∧ i = .int .i64 j ∧ Below w2.heap.size w2 wr ∧ RowsO wr w2.heap.size 31 5 v vs (spl j 0 l)) (fun _ i _ => k - (intOf i).toNat)
        case atStart => exact ⟨0, [], by omega, rfl, Below.refl _ _, RowsO.nil _ _ _ _⟩
        case round =>
          rename World => wr
          obtain ⟨j, vs, hj, rfl, hbr, hrow⟩ := hrel
          have HB := Lib.hid hbr
          have HR := Lib.hid hrow
          have hgr := hbr.size
          clear hbr hrow
          by_cases hjk : j < k
          · skip
            go_wp2_with (at_builtin; go_loud (refine app_row' (w0 := w2) (W := wr) rfl (.tmp 45) (.tmp 61) rfl (l := splRow 0 l j) j HR.out (spl_len _ _ _) (by omega) (by rw [splRow_zero]; exact kept_empty) HB.out hgr (by rfl) rfl rfl ?_); intro v' w4 h4)
            go_roundw
            case rel => exact ⟨j + 1, _, by omega, by go_num, h4.out.2.1, by rw [spl_succ]; exact h4.out.1⟩
            case measure => simp [intOf]; omega
          · obtain rfl : j = k := by omega
            go_wp2_with fail
            go_ret2
            have g2 := HB2.out.size
            exact .inr (.inr ⟨hrange.out, by have := HQ.out; have := hPQ.out; omega, _, rfl, by have h := HR.out.mat (by rw [spl_len]; omega); simpa using h, HB2.out.trans (HB.out.mono g2)⟩)
      · have hsn : 0 < s := by omega
        go_wp2_with fail
        go_loopw [9, 10] (fun v i wr => ∃ (j : Nat) (vs : List Value), j ≤ k ∧ i = .int .i64 j ∧ Below w2.heap.size w2 wr ∧ RowsO wr w2.heap.size 31 5 v vs (spl j s l)) (fun _ i _ => k - (intOf i).toNat)
        case atStart => exact ⟨0, [], by omega, rfl, Below.refl _ _, RowsO.nil _ _ _ _⟩
        case round =>
          rename World => wr
          obtain ⟨j, vs, hj, rfl, hbr, hrow⟩ := hrel
          have HB := Lib.hid hbr
          have HR := Lib.hid hrow
          have hgr := hbr.size
          clear hbr hrow
          by_cases hjk : j < k
          · obtain ⟨Pj, hPj⟩ : ∃ P : Nat, P = j * s := ⟨_, rfl⟩
            have hPji : (j : Int) * (s : Int) = (Pj : Int) := by rw [hPj]; simp
            have hPjP : Pj + s ≤ P := by
              rw [hPj, HP.out]
              have := Nat.mul_le_mul_right s (show j + 1 ≤ k by omega)
              rw [Nat.add_mul, Nat.one_mul] at this
              exact this
            have HPJ := Lib.hid hPj
            clear hPj
            go_wp2_with (at_builtin; go_loud (refine app_row' (w0 := w2) (W := wr) rfl (.tmp 45) (.tmp 61) rfl (l := splRow s l j) j HR.out (spl_len _ _ _) (by omega) (Kept.came (row_of_all HO2.out HQ.out.symm hqm HPJ.out hPjP hs HLX.out) HB.out (Nat.le_refl _)) HB.out hgr (by rfl) rfl rfl ?_); intro v' w4 h4)
            go_roundw
            case rel => exact ⟨j + 1, _, by omega, by go_num, h4.out.2.1, by rw [spl_succ]; exact h4.out.1⟩
            case measure => simp [intOf]; omega
          · obtain rfl : j = k := by omega
            go_wp2_with fail
            go_ret2
            have g2 := HB2.out.size
            exact .inr (.inr ⟨hrange.out, by have := HQ.out; have := hPQ.out; omega, _, rfl, by rw [Int.toNat_natCast, Int.toNat_natCast]; exact HR.out.mat (by rw [spl_len]; omega), HB2.out.trans (HB.out.mono g2)⟩)
end Go.Proofs.Ytojfeldafbabeaa
