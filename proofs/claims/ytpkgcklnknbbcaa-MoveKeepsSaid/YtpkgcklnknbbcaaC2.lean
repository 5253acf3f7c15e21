/- The walk of MoveEnds. -/
import Derived.Test.YtpkgcklnknbbcaaC1
import Derived.Test.YtpkgcklnknbbcaaMm
set_option linter.unusedVariables false
set_option linter.unusedSimpArgs false
set_option linter.unnecessarySimpa false
namespace Go.Proofs.Ytpkgcklnknbbcaa
open Go.RowKit

/-- a list of truth values in memory -/
def Bools (w : World) (v : Value) (n : Nat) (f : Nat → Bool) : Prop :=
  ∃ (a : Option Addr) (cap : Nat), v = .slice a n cap ∧ n ≤ 9223372036854775807 ∧ ∀ i, i < n → ∃ b off, a = some ⟨b, off, none⟩ ∧ b < w.heap.size ∧ w.cell? ⟨b, off + i, none⟩ = some (.bool (f i))










set_option maxRecDepth 100000 in










set_option maxHeartbeats 4000000 in
theorem ends_any (p s v : Int) (d : Bool) (vl : Value) (n : Nat) (f : Nat → Bool) (w : World) (hb : Bools w vl n f) (hp : -9223372036854775808 ≤ p ∧ p ≤ 9223372036854775807) (hs : -9223372036854775808 ≤ s ∧ s ≤ 9223372036854775807) (hv : -9223372036854775808 ≤ v ∧ v ≤ 9223372036854775807) :
    Calls Try.prog 8 #[.agg #[.int .i64 p, .int .i64 s, .int .i64 v, .bool d], vl] w (RetB true w) := by
  obtain ⟨a, cap, rfl, hl, hi⟩ := hb
  obtain ⟨p', s', v', hn, hk⟩ := near_valid p s v d
  have HN := Lib.hid hn
  have HK := Lib.hid hk
  have HI := Lib.hid hi
  have HP := Lib.hid (And.intro hp (And.intro hs hv))
  obtain ⟨W0, hW⟩ : ∃ W0, workF p' s' v' = W0 := ⟨_, rfl⟩
  have HW := Lib.hid hW
  have hbd := work_bd hk
  rw [hW] at hbd
  obtain ⟨hw0, hw1⟩ := hbd
  have hs4 : s' ≤ 4 := (valid_bounds hk).2.1
  clear hn hk hi hp hs hv hW
  by_cases h20 : 20 < n
  · go_enter Try.func8, Try.ntmps8
    go_wp2_with (go_at_call 13; refine (awake_any _).mono ?_; rintro e w1 ⟨rfl, hb1⟩; have HB := Lib.hid ((below_of_allocs _).trans (hb1.mono (by simp))))
    go_ret
    exact ⟨rfl, HB.out⟩
  have hd1 : decide ((20 : Int) < (n : Int)) = false := by simp; omega
  have hd2 : decide (W0 < 0) = false := by simp; omega
  have hd3 : decide (s' + 2 < W0) = false := by simp; omega
  have hd1 : decide ((20 : Int) < (n : Int)) = false := by simp; omega
  have hd2 : decide (W0 < 0) = false := by simp; omega
  have hd3 : decide (s' + 2 < W0) = false := by simp; omega
  have hd1 : decide ((20 : Int) < (n : Int)) = false := by simp; omega
  have hd2 : decide (W0 < 0) = false := by simp; omega
  have hd3 : decide (s' + 2 < W0) = false := by simp; omega
  have hd1 : decide ((20 : Int) < (n : Int)) = false := by simp; omega
  have hd2 : decide (W0 < 0) = false := by simp; omega
  have hd3 : decide (s' + 2 < W0) = false := by simp; omega
  have hd1 : decide ((20 : Int) < (n : Int)) = false := by simp; omega
  have hd2 : decide (W0 < 0) = false := by simp; omega
  have hd3 : decide (s' + 2 < W0) = false := by simp; omega
  have hd1 : decide ((20 : Int) < (n : Int)) = false := by simp; omega
  have hd2 : decide (W0 < 0) = false := by simp; omega
  have hd3 : decide (s' + 2 < W0) = false := by simp; omega
  have hd1 : decide ((20 : Int) < (n : Int)) = false := by simp; omega
  have hd2 : decide (W0 < 0) = false := by simp; omega
  have hd3 : decide (s' + 2 < W0) = false := by simp; omega
  have hd1 : decide ((20 : Int) < (n : Int)) = false := by simp; omega
  have hd2 : decide (W0 < 0) = false := by simp; omega
  have hd3 : decide (s' + 2 < W0) = false := by simp; omega
  have tok1 : True := trivial
  go_enter Try.func8, Try.ntmps8
  go_wp2_with (first
    | (go_at_call 15; refine (near_as HN.out _ HP.out.1 HP.out.2.1 HP.out.2.2).mono ?_; rintro e w1 ⟨rfl, hb1⟩; have HM1 := Lib.hid ((Mm.box _ _).call hb1); (obtain ⟨m00, m01, m02, m03, m00f, m01f, m02f, m03f, m0l⟩ := (HM1).out.lay4 0 rfl); clear hb1)
    | (go_at_call 21; have _t := tok1; refine (work_as HW.out HK.out _ _).mono ?_; rintro e w2 ⟨rfl, hb1⟩; have HM2 := Lib.hid (show Mm w w2 [(w.heap.size, #[.int .i64 p', .int .i64 s', .int .i64 v', .bool d])] from (HM1.out.put4 0 rfl _ _ _ _).call hb1); clear m00 m01 m02 m03 m00f m01f m02f m03f m0l; (obtain ⟨m00, m01, m02, m03, m00f, m01f, m02f, m03f, m0l⟩ := (HM2).out.lay4 0 rfl); clear hb1 HM1 tok1 _t))
  clear m00 m01 m02 m03 m00f m01f m02f m03f m0l
  go_loopw [6] (fun i wr => ∃ (k : Nat) (P S V : Int) (D : Bool), i = .int .i64 k ∧ (k : Int) ≤ W0 ∧ Mm w wr [(w.heap.size, #[.int .i64 P, .int .i64 S, .int .i64 V, .bool D])] ∧ Hid (validB P S V = true) ∧ Hid (workF P S V = W0 - k)) (fun i _ => W0.toNat - (intOf i).toNat)
  case atStart => exact ⟨0, p', s', v', d, rfl, hw0, HM2.out, HK, Lib.hid (by rw [HW.out]; omega)⟩
  case round =>
    clear HM2 HK HW
    rename World => wr
    obtain ⟨k, P, S, V, D, rfl, hkW, hM, HK1, HW⟩ := hrel
    have HM := Lib.hid hM
    obtain ⟨W1, hW1⟩ : ∃ W1, W1 = W0 - (k : Int) := ⟨_, rfl⟩
    have HW1 := Lib.hid (show workF P S V = W1 by rw [hW1]; exact HW.out)
    by_cases hlt : (k : Int) < W0
    · have hk62 : k ≤ 100 := by omega
      have hpos : 0 < workF P S V := by rw [HW1.out]; omega
      have hpp := work_pos HK1.out hpos
      have hhome := Lib.hid (home_step (d := D) HK1.out hpp)
      have hact := fun d => act_step (d := d) HK1.out hpos
      rw [HW1.out] at hact
      have HA := Lib.hid hact
      have HWE := Lib.hid hW1
      clear hpos hact hW1 hM HW hpp
      by_cases hkn : k < n
      · obtain ⟨b, off, rfl, hbs, hc⟩ := HI.out k hkn
        have hc' := (HM.out.below.cell (p := ⟨b, off + k, none⟩) hbs).trans hc
        clear hc
        (obtain ⟨m00, m01, m02, m03, m00f, m01f, m02f, m03f, m0l⟩ := (HM).out.lay4 0 rfl)
        have HWb := HW1
        have HKb := HK1
        cases hfk : f k
        · (rw [hfk] at hc'
           have HFK := Lib.hid hfk
           clear hfk
           have tok1 : True := trivial
           go_wp2_with (go_at_call 16; have _t := tok1; refine (apply_as (hhome.out.2) _ (valid_i64 HK1.out).1 (valid_i64 HK1.out).2).mono ?_; rintro e w3 ⟨rfl, hb1⟩; have HM3 := Lib.hid (HM.out.call hb1); clear hb1 tok1 _t)
           clear m00 m01 m02 m03 m00f m01f m02f m03f m0l
           refine wp_region_grow (fun w' => Mm w w' [(w3.heap.size, #[.int .i64 P, .int .i64 S, .int .i64 V, .bool true]), (w.heap.size, #[.int .i64 P, .int .i64 S, .int .i64 V, .bool D])]) (by kernel_rfl) (by kernel_rfl) (HM3.out.push w3.heap.size _ _ rfl).drew ?_
           (repeat first
                     | (apply gRow_plain
                        · exact rfl
                        · intro wg hg
                          ((have hgm : Mm _ wg _ := hg; (obtain ⟨x00, x01, x02, x03, x00f, x01f, x02f, x03f, x0l⟩ := hgm.lay4 0 rfl; obtain ⟨x10, x11, x12, x13, x10f, x11f, x12f, x13f, x1l⟩ := hgm.lay4 1 rfl)))
                          go_simp
                          first
                            | exact rfl
                            | exact hg
                            | exact ⟨hg, rfl⟩
                            | ((first | ((with_reducible refine (work_as HWb.out HKb.out _ _).mono ?_); rintro e w1 ⟨rfl, hb1⟩; exact ⟨rfl, Mm.call hg hb1⟩) | ((with_reducible refine (work_as HW1.out HK1.out _ _).mono ?_); rintro e w1 ⟨rfl, hb1⟩; exact ⟨rfl, Mm.call hg hb1⟩)))
                        intro K hK
                        go_simp
                        refine hK _ ?_
                        clear hK K)
                     | (apply gRow_step
                        · go_simp; done
                        · intro wg hg
                          ((have hgm : Mm _ wg _ := hg; (obtain ⟨x00, x01, x02, x03, x00f, x01f, x02f, x03f, x0l⟩ := hgm.lay4 0 rfl; obtain ⟨x10, x11, x12, x13, x10f, x11f, x12f, x13f, x1l⟩ := hgm.lay4 1 rfl)))
                          go_simp
                          first
                            | exact rfl
                            | exact hg
                            | exact ⟨hg, rfl⟩
                            | ((first | ((with_reducible refine (work_as HWb.out HKb.out _ _).mono ?_); rintro e w1 ⟨rfl, hb1⟩; exact ⟨rfl, Mm.call hg hb1⟩) | ((with_reducible refine (work_as HW1.out HK1.out _ _).mono ?_); rintro e w1 ⟨rfl, hb1⟩; exact ⟨rfl, Mm.call hg hb1⟩)))
                        intro K hK
                        go_simp
                        refine hK _ ?_
                        clear hK K)
                     | (apply gRow_not
                        · go_simp; done
                        intro K hK
                        go_simp
                        refine hK _ ?_
                        clear hK K))
           refine gRow_nil ?_
           intro w4 hM5
           have HM5 := Lib.hid hM5
           clear hM5
           (obtain ⟨m00, m01, m02, m03, m00f, m01f, m02f, m03f, m0l⟩ := (HM5).out.lay4 0 rfl; obtain ⟨m10, m11, m12, m13, m10f, m11f, m12f, m13f, m1l⟩ := (HM5).out.lay4 1 rfl)
           clear HWb HKb HM3
           (rcases HA.out true with ⟨kk, t, p2, v2, rfl, hkk, hnx, hap, hv2, hw2⟩ | ⟨rfl, hnx, hap, hv2, hw2⟩ | ⟨rfl, hnx, hap, hv2, hw2⟩
            · have k0 : (kk == 0) = false := by simp; omega
              have k3 : (kk == 3) = false := by simp; omega
              have k4 : (kk == 4) = false := by simp; omega
              clear hkk
              (have HNX := Lib.hid hnx
               have HAP := Lib.hid hap
               have HKb := Lib.hid hv2
               obtain ⟨W2, hW2⟩ : ∃ W2, W2 = W1 - 1 := ⟨_, rfl⟩
               rw [← hW2] at hw2
               have HWb := Lib.hid hw2
               have hge : decide (W1 ≤ W2) = false := by simp; omega
               have HW2 := Lib.hid hW2
               clear hnx hap hv2 hw2 hW2
               go_wp2_with (first
                 | (go_at_call 19; refine (next_as HNX.out HK1.out _).mono ?_; rintro e w5 ⟨rfl, hb1⟩; have HM6 := Lib.hid (show Mm w w5 [(w.heap.size, #[_, .int .i64 S, .int .i64 V, .bool true])] from (((HM5.out.put4 1 rfl _ _ _ (.bool true)).drop)).call hb1); (try clear m00 m01 m02 m03 m00f m01f m02f m03f m0l); (try clear m10 m11 m12 m13 m10f m11f m12f m13f m1l); (obtain ⟨m00, m01, m02, m03, m00f, m01f, m02f, m03f, m0l⟩ := (HM6).out.lay4 0 rfl); clear hb1)
                 | (go_at_call 16; refine (apply_as HAP.out _ (valid_i64 HK1.out).1 (valid_i64 HK1.out).2).mono ?_; rintro e w6 ⟨rfl, hb1⟩; have HM7 := Lib.hid (((HM6.out.alloc _).alloc _).call hb1); clear hb1; clear m00 m01 m02 m03 m00f m01f m02f m03f m0l))
               refine wp_region_grow (fun w' => Mm w w' [(w6.heap.size, #[.int .i64 p2, .int .i64 S, .int .i64 v2, .bool true]), (w.heap.size, #[_, .int .i64 S, .int .i64 V, .bool true])]) (by kernel_rfl) (by kernel_rfl) (HM7.out.push w6.heap.size _ _ rfl).drew ?_
               (repeat first
                         | (apply gRow_plain
                            · exact rfl
                            · intro wg hg
                              ((have hgm : Mm _ wg _ := hg; (obtain ⟨x00, x01, x02, x03, x00f, x01f, x02f, x03f, x0l⟩ := hgm.lay4 0 rfl; obtain ⟨x10, x11, x12, x13, x10f, x11f, x12f, x13f, x1l⟩ := hgm.lay4 1 rfl)))
                              go_simp
                              first
                                | exact rfl
                                | exact hg
                                | exact ⟨hg, rfl⟩
                                | ((first | ((with_reducible refine (work_as HWb.out HKb.out _ _).mono ?_); rintro e w1 ⟨rfl, hb1⟩; exact ⟨rfl, Mm.call hg hb1⟩) | ((with_reducible refine (work_as HW1.out HK1.out _ _).mono ?_); rintro e w1 ⟨rfl, hb1⟩; exact ⟨rfl, Mm.call hg hb1⟩)))
                            intro K hK
                            go_simp
                            refine hK _ ?_
                            clear hK K)
                         | (apply gRow_step
                            · go_simp; done
                            · intro wg hg
                              ((have hgm : Mm _ wg _ := hg; (obtain ⟨x00, x01, x02, x03, x00f, x01f, x02f, x03f, x0l⟩ := hgm.lay4 0 rfl; obtain ⟨x10, x11, x12, x13, x10f, x11f, x12f, x13f, x1l⟩ := hgm.lay4 1 rfl)))
                              go_simp
                              first
                                | exact rfl
                                | exact hg
                                | exact ⟨hg, rfl⟩
                                | ((first | ((with_reducible refine (work_as HWb.out HKb.out _ _).mono ?_); rintro e w1 ⟨rfl, hb1⟩; exact ⟨rfl, Mm.call hg hb1⟩) | ((with_reducible refine (work_as HW1.out HK1.out _ _).mono ?_); rintro e w1 ⟨rfl, hb1⟩; exact ⟨rfl, Mm.call hg hb1⟩)))
                            intro K hK
                            go_simp
                            refine hK _ ?_
                            clear hK K)
                         | (apply gRow_not
                            · go_simp; done
                            intro K hK
                            go_simp
                            refine hK _ ?_
                            clear hK K))
               refine gRow_nil ?_
               intro w7 hM8
               have HM8 := Lib.hid hM8
               clear hM8
               (obtain ⟨m00, m01, m02, m03, m00f, m01f, m02f, m03f, m0l⟩ := (HM8).out.lay4 0 rfl; obtain ⟨m10, m11, m12, m13, m10f, m11f, m12f, m13f, m1l⟩ := (HM8).out.lay4 1 rfl)
               go_wp2_with fail
               go_roundw
               case rel => exact ⟨k + 1, p2, S, v2, true, by go_num, by omega, (HM8.out.put4 1 rfl _ _ _ _).drop, HKb, Lib.hid (by rw [HWb.out, HW2.out, HWE.out]; omega)⟩
               case measure => simp [intOf]; omega)
            · (have HNX := Lib.hid hnx
               have HAP := Lib.hid hap
               have HKb := Lib.hid hv2
               obtain ⟨W2, hW2⟩ : ∃ W2, W2 = W1 - 1 := ⟨_, rfl⟩
               rw [← hW2] at hw2
               have HWb := Lib.hid hw2
               have hge : decide (W1 ≤ W2) = false := by simp; omega
               have HW2 := Lib.hid hW2
               clear hnx hap hv2 hw2 hW2
               go_wp2_with (first
                 | (go_at_call 19; refine (next_as HNX.out HK1.out _).mono ?_; rintro e w5 ⟨rfl, hb1⟩; have HM6 := Lib.hid (show Mm w w5 [(w.heap.size, #[_, .int .i64 S, .int .i64 V, .bool true])] from (((HM5.out.put4 1 rfl _ _ _ (.bool true)).drop)).call hb1); (try clear m00 m01 m02 m03 m00f m01f m02f m03f m0l); (try clear m10 m11 m12 m13 m10f m11f m12f m13f m1l); (obtain ⟨m00, m01, m02, m03, m00f, m01f, m02f, m03f, m0l⟩ := (HM6).out.lay4 0 rfl); clear hb1)
                 | (go_at_call 16; refine (apply_as HAP.out _ (valid_i64 HK1.out).1 (valid_i64 HK1.out).2).mono ?_; rintro e w6 ⟨rfl, hb1⟩; have HM7 := Lib.hid (((HM6.out.alloc _).alloc _).call hb1); clear hb1; clear m00 m01 m02 m03 m00f m01f m02f m03f m0l))
               refine wp_region_grow (fun w' => Mm w w' [(w6.heap.size, #[.int .i64 3, .int .i64 S, .int .i64 V, .bool true]), (w.heap.size, #[_, .int .i64 S, .int .i64 V, .bool true])]) (by kernel_rfl) (by kernel_rfl) (HM7.out.push w6.heap.size _ _ rfl).drew ?_
               (repeat first
                         | (apply gRow_plain
                            · exact rfl
                            · intro wg hg
                              ((have hgm : Mm _ wg _ := hg; (obtain ⟨x00, x01, x02, x03, x00f, x01f, x02f, x03f, x0l⟩ := hgm.lay4 0 rfl; obtain ⟨x10, x11, x12, x13, x10f, x11f, x12f, x13f, x1l⟩ := hgm.lay4 1 rfl)))
                              go_simp
                              first
                                | exact rfl
                                | exact hg
                                | exact ⟨hg, rfl⟩
                                | ((first | ((with_reducible refine (work_as HWb.out HKb.out _ _).mono ?_); rintro e w1 ⟨rfl, hb1⟩; exact ⟨rfl, Mm.call hg hb1⟩) | ((with_reducible refine (work_as HW1.out HK1.out _ _).mono ?_); rintro e w1 ⟨rfl, hb1⟩; exact ⟨rfl, Mm.call hg hb1⟩)))
                            intro K hK
                            go_simp
                            refine hK _ ?_
                            clear hK K)
                         | (apply gRow_step
                            · go_simp; done
                            · intro wg hg
                              ((have hgm : Mm _ wg _ := hg; (obtain ⟨x00, x01, x02, x03, x00f, x01f, x02f, x03f, x0l⟩ := hgm.lay4 0 rfl; obtain ⟨x10, x11, x12, x13, x10f, x11f, x12f, x13f, x1l⟩ := hgm.lay4 1 rfl)))
                              go_simp
                              first
                                | exact rfl
                                | exact hg
                                | exact ⟨hg, rfl⟩
                                | ((first | ((with_reducible refine (work_as HWb.out HKb.out _ _).mono ?_); rintro e w1 ⟨rfl, hb1⟩; exact ⟨rfl, Mm.call hg hb1⟩) | ((with_reducible refine (work_as HW1.out HK1.out _ _).mono ?_); rintro e w1 ⟨rfl, hb1⟩; exact ⟨rfl, Mm.call hg hb1⟩)))
                            intro K hK
                            go_simp
                            refine hK _ ?_
                            clear hK K)
                         | (apply gRow_not
                            · go_simp; done
                            intro K hK
                            go_simp
                            refine hK _ ?_
                            clear hK K))
               refine gRow_nil ?_
               intro w7 hM8
               have HM8 := Lib.hid hM8
               clear hM8
               (obtain ⟨m00, m01, m02, m03, m00f, m01f, m02f, m03f, m0l⟩ := (HM8).out.lay4 0 rfl; obtain ⟨m10, m11, m12, m13, m10f, m11f, m12f, m13f, m1l⟩ := (HM8).out.lay4 1 rfl)
               go_wp2_with fail
               go_roundw
               case rel => exact ⟨k + 1, 3, S, V, true, by go_num, by omega, (HM8.out.put4 1 rfl _ _ _ _).drop, HKb, Lib.hid (by rw [HWb.out, HW2.out, HWE.out]; omega)⟩
               case measure => simp [intOf]; omega)
            · (have HNX := Lib.hid hnx
               have HAP := Lib.hid hap
               have HKb := Lib.hid hv2
               obtain ⟨W2, hW2⟩ : ∃ W2, W2 = W1 - 1 := ⟨_, rfl⟩
               rw [← hW2] at hw2
               have HWb := Lib.hid hw2
               have hge : decide (W1 ≤ W2) = false := by simp; omega
               have HW2 := Lib.hid hW2
               clear hnx hap hv2 hw2 hW2
               go_wp2_with (first
                 | (go_at_call 19; refine (next_as HNX.out HK1.out _).mono ?_; rintro e w5 ⟨rfl, hb1⟩; have HM6 := Lib.hid (show Mm w w5 [(w.heap.size, #[_, .int .i64 S, .int .i64 V, .bool true])] from (((HM5.out.put4 1 rfl _ _ _ (.bool true)).drop)).call hb1); (try clear m00 m01 m02 m03 m00f m01f m02f m03f m0l); (try clear m10 m11 m12 m13 m10f m11f m12f m13f m1l); (obtain ⟨m00, m01, m02, m03, m00f, m01f, m02f, m03f, m0l⟩ := (HM6).out.lay4 0 rfl); clear hb1)
                 | (go_at_call 16; refine (apply_as HAP.out _ (valid_i64 HK1.out).1 (valid_i64 HK1.out).2).mono ?_; rintro e w6 ⟨rfl, hb1⟩; have HM7 := Lib.hid (((HM6.out.alloc _).alloc _).call hb1); clear hb1; clear m00 m01 m02 m03 m00f m01f m02f m03f m0l))
               refine wp_region_grow (fun w' => Mm w w' [(w6.heap.size, #[.int .i64 4, .int .i64 S, .int .i64 V, .bool true]), (w.heap.size, #[_, .int .i64 S, .int .i64 V, .bool true])]) (by kernel_rfl) (by kernel_rfl) (HM7.out.push w6.heap.size _ _ rfl).drew ?_
               (repeat first
                         | (apply gRow_plain
                            · exact rfl
                            · intro wg hg
                              ((have hgm : Mm _ wg _ := hg; (obtain ⟨x00, x01, x02, x03, x00f, x01f, x02f, x03f, x0l⟩ := hgm.lay4 0 rfl; obtain ⟨x10, x11, x12, x13, x10f, x11f, x12f, x13f, x1l⟩ := hgm.lay4 1 rfl)))
                              go_simp
                              first
                                | exact rfl
                                | exact hg
                                | exact ⟨hg, rfl⟩
                                | ((first | ((with_reducible refine (work_as HWb.out HKb.out _ _).mono ?_); rintro e w1 ⟨rfl, hb1⟩; exact ⟨rfl, Mm.call hg hb1⟩) | ((with_reducible refine (work_as HW1.out HK1.out _ _).mono ?_); rintro e w1 ⟨rfl, hb1⟩; exact ⟨rfl, Mm.call hg hb1⟩)))
                            intro K hK
                            go_simp
                            refine hK _ ?_
                            clear hK K)
                         | (apply gRow_step
                            · go_simp; done
                            · intro wg hg
                              ((have hgm : Mm _ wg _ := hg; (obtain ⟨x00, x01, x02, x03, x00f, x01f, x02f, x03f, x0l⟩ := hgm.lay4 0 rfl; obtain ⟨x10, x11, x12, x13, x10f, x11f, x12f, x13f, x1l⟩ := hgm.lay4 1 rfl)))
                              go_simp
                              first
                                | exact rfl
                                | exact hg
                                | exact ⟨hg, rfl⟩
                                | ((first | ((with_reducible refine (work_as HWb.out HKb.out _ _).mono ?_); rintro e w1 ⟨rfl, hb1⟩; exact ⟨rfl, Mm.call hg hb1⟩) | ((with_reducible refine (work_as HW1.out HK1.out _ _).mono ?_); rintro e w1 ⟨rfl, hb1⟩; exact ⟨rfl, Mm.call hg hb1⟩)))
                            intro K hK
                            go_simp
                            refine hK _ ?_
                            clear hK K)
                         | (apply gRow_not
                            · go_simp; done
                            intro K hK
                            go_simp
                            refine hK _ ?_
                            clear hK K))
               refine gRow_nil ?_
               intro w7 hM8
               have HM8 := Lib.hid hM8
               clear hM8
               (obtain ⟨m00, m01, m02, m03, m00f, m01f, m02f, m03f, m0l⟩ := (HM8).out.lay4 0 rfl; obtain ⟨m10, m11, m12, m13, m10f, m11f, m12f, m13f, m1l⟩ := (HM8).out.lay4 1 rfl)
               go_wp2_with fail
               go_roundw
               case rel => exact ⟨k + 1, 4, S, V, true, by go_num, by omega, (HM8.out.put4 1 rfl _ _ _ _).drop, HKb, Lib.hid (by rw [HWb.out, HW2.out, HWE.out]; omega)⟩
               case measure => simp [intOf]; omega)))
        · (rw [hfk] at hc'
           have HFK := Lib.hid hfk
           clear hfk
           have tok1 : True := trivial
           go_wp2_with (go_at_call 16; have _t := tok1; refine (apply_as (hhome.out.1) _ (valid_i64 HK1.out).1 (valid_i64 HK1.out).2).mono ?_; rintro e w3 ⟨rfl, hb1⟩; have HM3 := Lib.hid (HM.out.call hb1); clear hb1 tok1 _t)
           clear m00 m01 m02 m03 m00f m01f m02f m03f m0l
           refine wp_region_grow (fun w' => Mm w w' [(w3.heap.size, #[.int .i64 P, .int .i64 S, .int .i64 V, .bool false]), (w.heap.size, #[.int .i64 P, .int .i64 S, .int .i64 V, .bool D])]) (by kernel_rfl) (by kernel_rfl) (HM3.out.push w3.heap.size _ _ rfl).drew ?_
           (repeat first
                     | (apply gRow_plain
                        · exact rfl
                        · intro wg hg
                          ((have hgm : Mm _ wg _ := hg; (obtain ⟨x00, x01, x02, x03, x00f, x01f, x02f, x03f, x0l⟩ := hgm.lay4 0 rfl; obtain ⟨x10, x11, x12, x13, x10f, x11f, x12f, x13f, x1l⟩ := hgm.lay4 1 rfl)))
                          go_simp
                          first
                            | exact rfl
                            | exact hg
                            | exact ⟨hg, rfl⟩
                            | ((first | ((with_reducible refine (work_as HWb.out HKb.out _ _).mono ?_); rintro e w1 ⟨rfl, hb1⟩; exact ⟨rfl, Mm.call hg hb1⟩) | ((with_reducible refine (work_as HW1.out HK1.out _ _).mono ?_); rintro e w1 ⟨rfl, hb1⟩; exact ⟨rfl, Mm.call hg hb1⟩)))
                        intro K hK
                        go_simp
                        refine hK _ ?_
                        clear hK K)
                     | (apply gRow_step
                        · go_simp; done
                        · intro wg hg
                          ((have hgm : Mm _ wg _ := hg; (obtain ⟨x00, x01, x02, x03, x00f, x01f, x02f, x03f, x0l⟩ := hgm.lay4 0 rfl; obtain ⟨x10, x11, x12, x13, x10f, x11f, x12f, x13f, x1l⟩ := hgm.lay4 1 rfl)))
                          go_simp
                          first
                            | exact rfl
                            | exact hg
                            | exact ⟨hg, rfl⟩
                            | ((first | ((with_reducible refine (work_as HWb.out HKb.out _ _).mono ?_); rintro e w1 ⟨rfl, hb1⟩; exact ⟨rfl, Mm.call hg hb1⟩) | ((with_reducible refine (work_as HW1.out HK1.out _ _).mono ?_); rintro e w1 ⟨rfl, hb1⟩; exact ⟨rfl, Mm.call hg hb1⟩)))
                        intro K hK
                        go_simp
                        refine hK _ ?_
                        clear hK K)
                     | (apply gRow_not
                        · go_simp; done
                        intro K hK
                        go_simp
                        refine hK _ ?_
                        clear hK K))
           refine gRow_nil ?_
           intro w4 hM5
           have HM5 := Lib.hid hM5
           clear hM5
           (obtain ⟨m00, m01, m02, m03, m00f, m01f, m02f, m03f, m0l⟩ := (HM5).out.lay4 0 rfl; obtain ⟨m10, m11, m12, m13, m10f, m11f, m12f, m13f, m1l⟩ := (HM5).out.lay4 1 rfl)
           clear HWb HKb HM3
           (rcases HA.out false with ⟨kk, t, p2, v2, rfl, hkk, hnx, hap, hv2, hw2⟩ | ⟨rfl, hnx, hap, hv2, hw2⟩ | ⟨rfl, hnx, hap, hv2, hw2⟩
            · have k0 : (kk == 0) = false := by simp; omega
              have k3 : (kk == 3) = false := by simp; omega
              have k4 : (kk == 4) = false := by simp; omega
              clear hkk
              (have HNX := Lib.hid hnx
               have HAP := Lib.hid hap
               have HKb := Lib.hid hv2
               obtain ⟨W2, hW2⟩ : ∃ W2, W2 = W1 - 1 := ⟨_, rfl⟩
               rw [← hW2] at hw2
               have HWb := Lib.hid hw2
               have hge : decide (W1 ≤ W2) = false := by simp; omega
               have HW2 := Lib.hid hW2
               clear hnx hap hv2 hw2 hW2
               go_wp2_with (first
                 | (go_at_call 19; refine (next_as HNX.out HK1.out _).mono ?_; rintro e w5 ⟨rfl, hb1⟩; have HM6 := Lib.hid (show Mm w w5 [(w.heap.size, #[_, .int .i64 S, .int .i64 V, .bool false])] from (((HM5.out.put4 1 rfl _ _ _ (.bool false)).drop)).call hb1); (try clear m00 m01 m02 m03 m00f m01f m02f m03f m0l); (try clear m10 m11 m12 m13 m10f m11f m12f m13f m1l); (obtain ⟨m00, m01, m02, m03, m00f, m01f, m02f, m03f, m0l⟩ := (HM6).out.lay4 0 rfl); clear hb1)
                 | (go_at_call 16; refine (apply_as HAP.out _ (valid_i64 HK1.out).1 (valid_i64 HK1.out).2).mono ?_; rintro e w6 ⟨rfl, hb1⟩; have HM7 := Lib.hid (((HM6.out.alloc _).alloc _).call hb1); clear hb1; clear m00 m01 m02 m03 m00f m01f m02f m03f m0l))
               refine wp_region_grow (fun w' => Mm w w' [(w6.heap.size, #[.int .i64 p2, .int .i64 S, .int .i64 v2, .bool false]), (w.heap.size, #[_, .int .i64 S, .int .i64 V, .bool false])]) (by kernel_rfl) (by kernel_rfl) (HM7.out.push w6.heap.size _ _ rfl).drew ?_
               (repeat first
                         | (apply gRow_plain
                            · exact rfl
                            · intro wg hg
                              ((have hgm : Mm _ wg _ := hg; (obtain ⟨x00, x01, x02, x03, x00f, x01f, x02f, x03f, x0l⟩ := hgm.lay4 0 rfl; obtain ⟨x10, x11, x12, x13, x10f, x11f, x12f, x13f, x1l⟩ := hgm.lay4 1 rfl)))
                              go_simp
                              first
                                | exact rfl
                                | exact hg
                                | exact ⟨hg, rfl⟩
                                | ((first | ((with_reducible refine (work_as HWb.out HKb.out _ _).mono ?_); rintro e w1 ⟨rfl, hb1⟩; exact ⟨rfl, Mm.call hg hb1⟩) | ((with_reducible refine (work_as HW1.out HK1.out _ _).mono ?_); rintro e w1 ⟨rfl, hb1⟩; exact ⟨rfl, Mm.call hg hb1⟩)))
                            intro K hK
                            go_simp
                            refine hK _ ?_
                            clear hK K)
                         | (apply gRow_step
                            · go_simp; done
                            · intro wg hg
                              ((have hgm : Mm _ wg _ := hg; (obtain ⟨x00, x01, x02, x03, x00f, x01f, x02f, x03f, x0l⟩ := hgm.lay4 0 rfl; obtain ⟨x10, x11, x12, x13, x10f, x11f, x12f, x13f, x1l⟩ := hgm.lay4 1 rfl)))
                              go_simp
                              first
                                | exact rfl
                                | exact hg
                                | exact ⟨hg, rfl⟩
                                | ((first | ((with_reducible refine (work_as HWb.out HKb.out _ _).mono ?_); rintro e w1 ⟨rfl, hb1⟩; exact ⟨rfl, Mm.call hg hb1⟩) | ((with_reducible refine (work_as HW1.out HK1.out _ _).mono ?_); rintro e w1 ⟨rfl, hb1⟩; exact ⟨rfl, Mm.call hg hb1⟩)))
                            intro K hK
                            go_simp
                            refine hK _ ?_
                            clear hK K)
                         | (apply gRow_not
                            · go_simp; done
                            intro K hK
                            go_simp
                            refine hK _ ?_
                            clear hK K))
               refine gRow_nil ?_
               intro w7 hM8
               have HM8 := Lib.hid hM8
               clear hM8
               (obtain ⟨m00, m01, m02, m03, m00f, m01f, m02f, m03f, m0l⟩ := (HM8).out.lay4 0 rfl; obtain ⟨m10, m11, m12, m13, m10f, m11f, m12f, m13f, m1l⟩ := (HM8).out.lay4 1 rfl)
               go_wp2_with fail
               go_roundw
               case rel => exact ⟨k + 1, p2, S, v2, false, by go_num, by omega, (HM8.out.put4 1 rfl _ _ _ _).drop, HKb, Lib.hid (by rw [HWb.out, HW2.out, HWE.out]; omega)⟩
               case measure => simp [intOf]; omega)
            · (have HNX := Lib.hid hnx
               have HAP := Lib.hid hap
               have HKb := Lib.hid hv2
               obtain ⟨W2, hW2⟩ : ∃ W2, W2 = W1 - 1 := ⟨_, rfl⟩
               rw [← hW2] at hw2
               have HWb := Lib.hid hw2
               have hge : decide (W1 ≤ W2) = false := by simp; omega
               have HW2 := Lib.hid hW2
               clear hnx hap hv2 hw2 hW2
               go_wp2_with (first
                 | (go_at_call 19; refine (next_as HNX.out HK1.out _).mono ?_; rintro e w5 ⟨rfl, hb1⟩; have HM6 := Lib.hid (show Mm w w5 [(w.heap.size, #[_, .int .i64 S, .int .i64 V, .bool false])] from (((HM5.out.put4 1 rfl _ _ _ (.bool false)).drop)).call hb1); (try clear m00 m01 m02 m03 m00f m01f m02f m03f m0l); (try clear m10 m11 m12 m13 m10f m11f m12f m13f m1l); (obtain ⟨m00, m01, m02, m03, m00f, m01f, m02f, m03f, m0l⟩ := (HM6).out.lay4 0 rfl); clear hb1)
                 | (go_at_call 16; refine (apply_as HAP.out _ (valid_i64 HK1.out).1 (valid_i64 HK1.out).2).mono ?_; rintro e w6 ⟨rfl, hb1⟩; have HM7 := Lib.hid (((HM6.out.alloc _).alloc _).call hb1); clear hb1; clear m00 m01 m02 m03 m00f m01f m02f m03f m0l))
               refine wp_region_grow (fun w' => Mm w w' [(w6.heap.size, #[.int .i64 3, .int .i64 S, .int .i64 V, .bool false]), (w.heap.size, #[_, .int .i64 S, .int .i64 V, .bool false])]) (by kernel_rfl) (by kernel_rfl) (HM7.out.push w6.heap.size _ _ rfl).drew ?_
               (repeat first
                         | (apply gRow_plain
                            · exact rfl
                            · intro wg hg
                              ((have hgm : Mm _ wg _ := hg; (obtain ⟨x00, x01, x02, x03, x00f, x01f, x02f, x03f, x0l⟩ := hgm.lay4 0 rfl; obtain ⟨x10, x11, x12, x13, x10f, x11f, x12f, x13f, x1l⟩ := hgm.lay4 1 rfl)))
                              go_simp
                              first
                                | exact rfl
                                | exact hg
                                | exact ⟨hg, rfl⟩
                                | ((first | ((with_reducible refine (work_as HWb.out HKb.out _ _).mono ?_); rintro e w1 ⟨rfl, hb1⟩; exact ⟨rfl, Mm.call hg hb1⟩) | ((with_reducible refine (work_as HW1.out HK1.out _ _).mono ?_); rintro e w1 ⟨rfl, hb1⟩; exact ⟨rfl, Mm.call hg hb1⟩)))
                            intro K hK
                            go_simp
                            refine hK _ ?_
                            clear hK K)
                         | (apply gRow_step
                            · go_simp; done
                            · intro wg hg
                              ((have hgm : Mm _ wg _ := hg; (obtain ⟨x00, x01, x02, x03, x00f, x01f, x02f, x03f, x0l⟩ := hgm.lay4 0 rfl; obtain ⟨x10, x11, x12, x13, x10f, x11f, x12f, x13f, x1l⟩ := hgm.lay4 1 rfl)))
                              go_simp
                              first
                                | exact rfl
                                | exact hg
                                | exact ⟨hg, rfl⟩
                                | ((first | ((with_reducible refine (work_as HWb.out HKb.out _ _).mono ?_); rintro e w1 ⟨rfl, hb1⟩; exact ⟨rfl, Mm.call hg hb1⟩) | ((with_reducible refine (work_as HW1.out HK1.out _ _).mono ?_); rintro e w1 ⟨rfl, hb1⟩; exact ⟨rfl, Mm.call hg hb1⟩)))
                            intro K hK
                            go_simp
                            refine hK _ ?_
                            clear hK K)
                         | (apply gRow_not
                            · go_simp; done
                            intro K hK
                            go_simp
                            refine hK _ ?_
                            clear hK K))
               refine gRow_nil ?_
               intro w7 hM8
               have HM8 := Lib.hid hM8
               clear hM8
               (obtain ⟨m00, m01, m02, m03, m00f, m01f, m02f, m03f, m0l⟩ := (HM8).out.lay4 0 rfl; obtain ⟨m10, m11, m12, m13, m10f, m11f, m12f, m13f, m1l⟩ := (HM8).out.lay4 1 rfl)
               go_wp2_with fail
               go_roundw
               case rel => exact ⟨k + 1, 3, S, V, false, by go_num, by omega, (HM8.out.put4 1 rfl _ _ _ _).drop, HKb, Lib.hid (by rw [HWb.out, HW2.out, HWE.out]; omega)⟩
               case measure => simp [intOf]; omega)
            · (have HNX := Lib.hid hnx
               have HAP := Lib.hid hap
               have HKb := Lib.hid hv2
               obtain ⟨W2, hW2⟩ : ∃ W2, W2 = W1 - 1 := ⟨_, rfl⟩
               rw [← hW2] at hw2
               have HWb := Lib.hid hw2
               have hge : decide (W1 ≤ W2) = false := by simp; omega
               have HW2 := Lib.hid hW2
               clear hnx hap hv2 hw2 hW2
               go_wp2_with (first
                 | (go_at_call 19; refine (next_as HNX.out HK1.out _).mono ?_; rintro e w5 ⟨rfl, hb1⟩; have HM6 := Lib.hid (show Mm w w5 [(w.heap.size, #[_, .int .i64 S, .int .i64 V, .bool false])] from (((HM5.out.put4 1 rfl _ _ _ (.bool false)).drop)).call hb1); (try clear m00 m01 m02 m03 m00f m01f m02f m03f m0l); (try clear m10 m11 m12 m13 m10f m11f m12f m13f m1l); (obtain ⟨m00, m01, m02, m03, m00f, m01f, m02f, m03f, m0l⟩ := (HM6).out.lay4 0 rfl); clear hb1)
                 | (go_at_call 16; refine (apply_as HAP.out _ (valid_i64 HK1.out).1 (valid_i64 HK1.out).2).mono ?_; rintro e w6 ⟨rfl, hb1⟩; have HM7 := Lib.hid (((HM6.out.alloc _).alloc _).call hb1); clear hb1; clear m00 m01 m02 m03 m00f m01f m02f m03f m0l))
               refine wp_region_grow (fun w' => Mm w w' [(w6.heap.size, #[.int .i64 4, .int .i64 S, .int .i64 V, .bool false]), (w.heap.size, #[_, .int .i64 S, .int .i64 V, .bool false])]) (by kernel_rfl) (by kernel_rfl) (HM7.out.push w6.heap.size _ _ rfl).drew ?_
               (repeat first
                         | (apply gRow_plain
                            · exact rfl
                            · intro wg hg
                              ((have hgm : Mm _ wg _ := hg; (obtain ⟨x00, x01, x02, x03, x00f, x01f, x02f, x03f, x0l⟩ := hgm.lay4 0 rfl; obtain ⟨x10, x11, x12, x13, x10f, x11f, x12f, x13f, x1l⟩ := hgm.lay4 1 rfl)))
                              go_simp
                              first
                                | exact rfl
                                | exact hg
                                | exact ⟨hg, rfl⟩
                                | ((first | ((with_reducible refine (work_as HWb.out HKb.out _ _).mono ?_); rintro e w1 ⟨rfl, hb1⟩; exact ⟨rfl, Mm.call hg hb1⟩) | ((with_reducible refine (work_as HW1.out HK1.out _ _).mono ?_); rintro e w1 ⟨rfl, hb1⟩; exact ⟨rfl, Mm.call hg hb1⟩)))
                            intro K hK
                            go_simp
                            refine hK _ ?_
                            clear hK K)
                         | (apply gRow_step
                            · go_simp; done
                            · intro wg hg
                              ((have hgm : Mm _ wg _ := hg; (obtain ⟨x00, x01, x02, x03, x00f, x01f, x02f, x03f, x0l⟩ := hgm.lay4 0 rfl; obtain ⟨x10, x11, x12, x13, x10f, x11f, x12f, x13f, x1l⟩ := hgm.lay4 1 rfl)))
                              go_simp
                              first
                                | exact rfl
                                | exact hg
                                | exact ⟨hg, rfl⟩
                                | ((first | ((with_reducible refine (work_as HWb.out HKb.out _ _).mono ?_); rintro e w1 ⟨rfl, hb1⟩; exact ⟨rfl, Mm.call hg hb1⟩) | ((with_reducible refine (work_as HW1.out HK1.out _ _).mono ?_); rintro e w1 ⟨rfl, hb1⟩; exact ⟨rfl, Mm.call hg hb1⟩)))
                            intro K hK
                            go_simp
                            refine hK _ ?_
                            clear hK K)
                         | (apply gRow_not
                            · go_simp; done
                            intro K hK
                            go_simp
                            refine hK _ ?_
                            clear hK K))
               refine gRow_nil ?_
               intro w7 hM8
               have HM8 := Lib.hid hM8
               clear hM8
               (obtain ⟨m00, m01, m02, m03, m00f, m01f, m02f, m03f, m0l⟩ := (HM8).out.lay4 0 rfl; obtain ⟨m10, m11, m12, m13, m10f, m11f, m12f, m13f, m1l⟩ := (HM8).out.lay4 1 rfl)
               go_wp2_with fail
               go_roundw
               case rel => exact ⟨k + 1, 4, S, V, false, by go_num, by omega, (HM8.out.put4 1 rfl _ _ _ _).drop, HKb, Lib.hid (by rw [HWb.out, HW2.out, HWE.out]; omega)⟩
               case measure => simp [intOf]; omega)))
      · (obtain ⟨m00, m01, m02, m03, m00f, m01f, m02f, m03f, m0l⟩ := (HM).out.lay4 0 rfl)
        (rcases HA.out D with ⟨kk, t, p2, v2, rfl, hkk, hnx, hap, hv2, hw2⟩ | ⟨rfl, hnx, hap, hv2, hw2⟩ | ⟨rfl, hnx, hap, hv2, hw2⟩
         · have k0 : (kk == 0) = false := by simp; omega
           have k3 : (kk == 3) = false := by simp; omega
           have k4 : (kk == 4) = false := by simp; omega
           clear hkk
           (have HNX := Lib.hid hnx
            have HAP := Lib.hid hap
            have HKb := Lib.hid hv2
            obtain ⟨W2, hW2⟩ : ∃ W2, W2 = W1 - 1 := ⟨_, rfl⟩
            rw [← hW2] at hw2
            have HWb := Lib.hid hw2
            have hge : decide (W1 ≤ W2) = false := by simp; omega
            have HW2 := Lib.hid hW2
            clear hnx hap hv2 hw2 hW2
            go_wp2_with (first
              | (go_at_call 19; refine (next_as HNX.out HK1.out _).mono ?_; rintro e w5 ⟨rfl, hb1⟩; have HM6 := Lib.hid (show Mm w w5 [(w.heap.size, #[_, .int .i64 S, .int .i64 V, .bool D])] from ((HM.out)).call hb1); (try clear m00 m01 m02 m03 m00f m01f m02f m03f m0l); (try clear m10 m11 m12 m13 m10f m11f m12f m13f m1l); (obtain ⟨m00, m01, m02, m03, m00f, m01f, m02f, m03f, m0l⟩ := (HM6).out.lay4 0 rfl); clear hb1)
              | (go_at_call 16; refine (apply_as HAP.out _ (valid_i64 HK1.out).1 (valid_i64 HK1.out).2).mono ?_; rintro e w6 ⟨rfl, hb1⟩; have HM7 := Lib.hid (((HM6.out.alloc _).alloc _).call hb1); clear hb1; clear m00 m01 m02 m03 m00f m01f m02f m03f m0l))
            refine wp_region_grow (fun w' => Mm w w' [(w6.heap.size, #[.int .i64 p2, .int .i64 S, .int .i64 v2, .bool D]), (w.heap.size, #[_, .int .i64 S, .int .i64 V, .bool D])]) (by kernel_rfl) (by kernel_rfl) (HM7.out.push w6.heap.size _ _ rfl).drew ?_
            (repeat first
                      | (apply gRow_plain
                         · exact rfl
                         · intro wg hg
                           ((have hgm : Mm _ wg _ := hg; (obtain ⟨x00, x01, x02, x03, x00f, x01f, x02f, x03f, x0l⟩ := hgm.lay4 0 rfl; obtain ⟨x10, x11, x12, x13, x10f, x11f, x12f, x13f, x1l⟩ := hgm.lay4 1 rfl)))
                           go_simp
                           first
                             | exact rfl
                             | exact hg
                             | exact ⟨hg, rfl⟩
                             | ((first | ((with_reducible refine (work_as HWb.out HKb.out _ _).mono ?_); rintro e w1 ⟨rfl, hb1⟩; exact ⟨rfl, Mm.call hg hb1⟩) | ((with_reducible refine (work_as HW1.out HK1.out _ _).mono ?_); rintro e w1 ⟨rfl, hb1⟩; exact ⟨rfl, Mm.call hg hb1⟩)))
                         intro K hK
                         go_simp
                         refine hK _ ?_
                         clear hK K)
                      | (apply gRow_step
                         · go_simp; done
                         · intro wg hg
                           ((have hgm : Mm _ wg _ := hg; (obtain ⟨x00, x01, x02, x03, x00f, x01f, x02f, x03f, x0l⟩ := hgm.lay4 0 rfl; obtain ⟨x10, x11, x12, x13, x10f, x11f, x12f, x13f, x1l⟩ := hgm.lay4 1 rfl)))
                           go_simp
                           first
                             | exact rfl
                             | exact hg
                             | exact ⟨hg, rfl⟩
                             | ((first | ((with_reducible refine (work_as HWb.out HKb.out _ _).mono ?_); rintro e w1 ⟨rfl, hb1⟩; exact ⟨rfl, Mm.call hg hb1⟩) | ((with_reducible refine (work_as HW1.out HK1.out _ _).mono ?_); rintro e w1 ⟨rfl, hb1⟩; exact ⟨rfl, Mm.call hg hb1⟩)))
                         intro K hK
                         go_simp
                         refine hK _ ?_
                         clear hK K)
                      | (apply gRow_not
                         · go_simp; done
                         intro K hK
                         go_simp
                         refine hK _ ?_
                         clear hK K))
            refine gRow_nil ?_
            intro w7 hM8
            have HM8 := Lib.hid hM8
            clear hM8
            (obtain ⟨m00, m01, m02, m03, m00f, m01f, m02f, m03f, m0l⟩ := (HM8).out.lay4 0 rfl; obtain ⟨m10, m11, m12, m13, m10f, m11f, m12f, m13f, m1l⟩ := (HM8).out.lay4 1 rfl)
            go_wp2_with fail
            go_roundw
            case rel => exact ⟨k + 1, p2, S, v2, D, by go_num, by omega, (HM8.out.put4 1 rfl _ _ _ _).drop, HKb, Lib.hid (by rw [HWb.out, HW2.out, HWE.out]; omega)⟩
            case measure => simp [intOf]; omega)
         · (have HNX := Lib.hid hnx
            have HAP := Lib.hid hap
            have HKb := Lib.hid hv2
            obtain ⟨W2, hW2⟩ : ∃ W2, W2 = W1 - 1 := ⟨_, rfl⟩
            rw [← hW2] at hw2
            have HWb := Lib.hid hw2
            have hge : decide (W1 ≤ W2) = false := by simp; omega
            have HW2 := Lib.hid hW2
            clear hnx hap hv2 hw2 hW2
            go_wp2_with (first
              | (go_at_call 19; refine (next_as HNX.out HK1.out _).mono ?_; rintro e w5 ⟨rfl, hb1⟩; have HM6 := Lib.hid (show Mm w w5 [(w.heap.size, #[_, .int .i64 S, .int .i64 V, .bool D])] from ((HM.out)).call hb1); (try clear m00 m01 m02 m03 m00f m01f m02f m03f m0l); (try clear m10 m11 m12 m13 m10f m11f m12f m13f m1l); (obtain ⟨m00, m01, m02, m03, m00f, m01f, m02f, m03f, m0l⟩ := (HM6).out.lay4 0 rfl); clear hb1)
              | (go_at_call 16; refine (apply_as HAP.out _ (valid_i64 HK1.out).1 (valid_i64 HK1.out).2).mono ?_; rintro e w6 ⟨rfl, hb1⟩; have HM7 := Lib.hid (((HM6.out.alloc _).alloc _).call hb1); clear hb1; clear m00 m01 m02 m03 m00f m01f m02f m03f m0l))
            refine wp_region_grow (fun w' => Mm w w' [(w6.heap.size, #[.int .i64 3, .int .i64 S, .int .i64 V, .bool D]), (w.heap.size, #[_, .int .i64 S, .int .i64 V, .bool D])]) (by kernel_rfl) (by kernel_rfl) (HM7.out.push w6.heap.size _ _ rfl).drew ?_
            (repeat first
                      | (apply gRow_plain
                         · exact rfl
                         · intro wg hg
                           ((have hgm : Mm _ wg _ := hg; (obtain ⟨x00, x01, x02, x03, x00f, x01f, x02f, x03f, x0l⟩ := hgm.lay4 0 rfl; obtain ⟨x10, x11, x12, x13, x10f, x11f, x12f, x13f, x1l⟩ := hgm.lay4 1 rfl)))
                           go_simp
                           first
                             | exact rfl
                             | exact hg
                             | exact ⟨hg, rfl⟩
                             | ((first | ((with_reducible refine (work_as HWb.out HKb.out _ _).mono ?_); rintro e w1 ⟨rfl, hb1⟩; exact ⟨rfl, Mm.call hg hb1⟩) | ((with_reducible refine (work_as HW1.out HK1.out _ _).mono ?_); rintro e w1 ⟨rfl, hb1⟩; exact ⟨rfl, Mm.call hg hb1⟩)))
                         intro K hK
                         go_simp
                         refine hK _ ?_
                         clear hK K)
                      | (apply gRow_step
                         · go_simp; done
                         · intro wg hg
                           ((have hgm : Mm _ wg _ := hg; (obtain ⟨x00, x01, x02, x03, x00f, x01f, x02f, x03f, x0l⟩ := hgm.lay4 0 rfl; obtain ⟨x10, x11, x12, x13, x10f, x11f, x12f, x13f, x1l⟩ := hgm.lay4 1 rfl)))
                           go_simp
                           first
                             | exact rfl
                             | exact hg
                             | exact ⟨hg, rfl⟩
                             | ((first | ((with_reducible refine (work_as HWb.out HKb.out _ _).mono ?_); rintro e w1 ⟨rfl, hb1⟩; exact ⟨rfl, Mm.call hg hb1⟩) | ((with_reducible refine (work_as HW1.out HK1.out _ _).mono ?_); rintro e w1 ⟨rfl, hb1⟩; exact ⟨rfl, Mm.call hg hb1⟩)))
                         intro K hK
                         go_simp
                         refine hK _ ?_
                         clear hK K)
                      | (apply gRow_not
                         · go_simp; done
                         intro K hK
                         go_simp
                         refine hK _ ?_
                         clear hK K))
            refine gRow_nil ?_
            intro w7 hM8
            have HM8 := Lib.hid hM8
            clear hM8
            (obtain ⟨m00, m01, m02, m03, m00f, m01f, m02f, m03f, m0l⟩ := (HM8).out.lay4 0 rfl; obtain ⟨m10, m11, m12, m13, m10f, m11f, m12f, m13f, m1l⟩ := (HM8).out.lay4 1 rfl)
            go_wp2_with fail
            go_roundw
            case rel => exact ⟨k + 1, 3, S, V, D, by go_num, by omega, (HM8.out.put4 1 rfl _ _ _ _).drop, HKb, Lib.hid (by rw [HWb.out, HW2.out, HWE.out]; omega)⟩
            case measure => simp [intOf]; omega)
         · (have HNX := Lib.hid hnx
            have HAP := Lib.hid hap
            have HKb := Lib.hid hv2
            obtain ⟨W2, hW2⟩ : ∃ W2, W2 = W1 - 1 := ⟨_, rfl⟩
            rw [← hW2] at hw2
            have HWb := Lib.hid hw2
            have hge : decide (W1 ≤ W2) = false := by simp; omega
            have HW2 := Lib.hid hW2
            clear hnx hap hv2 hw2 hW2
            go_wp2_with (first
              | (go_at_call 19; refine (next_as HNX.out HK1.out _).mono ?_; rintro e w5 ⟨rfl, hb1⟩; have HM6 := Lib.hid (show Mm w w5 [(w.heap.size, #[_, .int .i64 S, .int .i64 V, .bool D])] from ((HM.out)).call hb1); (try clear m00 m01 m02 m03 m00f m01f m02f m03f m0l); (try clear m10 m11 m12 m13 m10f m11f m12f m13f m1l); (obtain ⟨m00, m01, m02, m03, m00f, m01f, m02f, m03f, m0l⟩ := (HM6).out.lay4 0 rfl); clear hb1)
              | (go_at_call 16; refine (apply_as HAP.out _ (valid_i64 HK1.out).1 (valid_i64 HK1.out).2).mono ?_; rintro e w6 ⟨rfl, hb1⟩; have HM7 := Lib.hid (((HM6.out.alloc _).alloc _).call hb1); clear hb1; clear m00 m01 m02 m03 m00f m01f m02f m03f m0l))
            refine wp_region_grow (fun w' => Mm w w' [(w6.heap.size, #[.int .i64 4, .int .i64 S, .int .i64 V, .bool D]), (w.heap.size, #[_, .int .i64 S, .int .i64 V, .bool D])]) (by kernel_rfl) (by kernel_rfl) (HM7.out.push w6.heap.size _ _ rfl).drew ?_
            (repeat first
                      | (apply gRow_plain
                         · exact rfl
                         · intro wg hg
                           ((have hgm : Mm _ wg _ := hg; (obtain ⟨x00, x01, x02, x03, x00f, x01f, x02f, x03f, x0l⟩ := hgm.lay4 0 rfl; obtain ⟨x10, x11, x12, x13, x10f, x11f, x12f, x13f, x1l⟩ := hgm.lay4 1 rfl)))
                           go_simp
                           first
                             | exact rfl
                             | exact hg
                             | exact ⟨hg, rfl⟩
                             | ((first | ((with_reducible refine (work_as HWb.out HKb.out _ _).mono ?_); rintro e w1 ⟨rfl, hb1⟩; exact ⟨rfl, Mm.call hg hb1⟩) | ((with_reducible refine (work_as HW1.out HK1.out _ _).mono ?_); rintro e w1 ⟨rfl, hb1⟩; exact ⟨rfl, Mm.call hg hb1⟩)))
                         intro K hK
                         go_simp
                         refine hK _ ?_
                         clear hK K)
                      | (apply gRow_step
                         · go_simp; done
                         · intro wg hg
                           ((have hgm : Mm _ wg _ := hg; (obtain ⟨x00, x01, x02, x03, x00f, x01f, x02f, x03f, x0l⟩ := hgm.lay4 0 rfl; obtain ⟨x10, x11, x12, x13, x10f, x11f, x12f, x13f, x1l⟩ := hgm.lay4 1 rfl)))
                           go_simp
                           first
                             | exact rfl
                             | exact hg
                             | exact ⟨hg, rfl⟩
                             | ((first | ((with_reducible refine (work_as HWb.out HKb.out _ _).mono ?_); rintro e w1 ⟨rfl, hb1⟩; exact ⟨rfl, Mm.call hg hb1⟩) | ((with_reducible refine (work_as HW1.out HK1.out _ _).mono ?_); rintro e w1 ⟨rfl, hb1⟩; exact ⟨rfl, Mm.call hg hb1⟩)))
                         intro K hK
                         go_simp
                         refine hK _ ?_
                         clear hK K)
                      | (apply gRow_not
                         · go_simp; done
                         intro K hK
                         go_simp
                         refine hK _ ?_
                         clear hK K))
            refine gRow_nil ?_
            intro w7 hM8
            have HM8 := Lib.hid hM8
            clear hM8
            (obtain ⟨m00, m01, m02, m03, m00f, m01f, m02f, m03f, m0l⟩ := (HM8).out.lay4 0 rfl; obtain ⟨m10, m11, m12, m13, m10f, m11f, m12f, m13f, m1l⟩ := (HM8).out.lay4 1 rfl)
            go_wp2_with fail
            go_roundw
            case rel => exact ⟨k + 1, 4, S, V, D, by go_num, by omega, (HM8.out.put4 1 rfl _ _ _ _).drop, HKb, Lib.hid (by rw [HWb.out, HW2.out, HWE.out]; omega)⟩
            case measure => simp [intOf]; omega))
    · have h0 : W1 = 0 := by omega
      have hz := work_zero HK1.out (by rw [HW1.out, h0])
      obtain ⟨h45, hnx⟩ := hz
      have HNX := Lib.hid (hnx D)
      have HW3 := Lib.hid (show workF P S V = 0 by rw [HW1.out, h0])
      clear h0 hnx
      (obtain ⟨m00, m01, m02, m03, m00f, m01f, m02f, m03f, m0l⟩ := (HM).out.lay4 0 rfl)
      rcases h45 with rfl | rfl
      all_goals
        go_wp2_with (first
          | (go_at_call 13; refine (awake_any _).mono ?_; rintro e w3 ⟨rfl, hb1⟩; have HM3 := Lib.hid (HM.out.call hb1); clear m00 m01 m02 m03 m00f m01f m02f m03f m0l; (obtain ⟨m00, m01, m02, m03, m00f, m01f, m02f, m03f, m0l⟩ := (HM3).out.lay4 0 rfl); clear hb1)
          | (go_at_call 21; refine (work_as HW3.out HK1.out _ _).mono ?_; rintro e w4 ⟨rfl, hb1⟩; have HM4 := Lib.hid (HM3.out.call hb1); clear m00 m01 m02 m03 m00f m01f m02f m03f m0l; (obtain ⟨m00, m01, m02, m03, m00f, m01f, m02f, m03f, m0l⟩ := (HM4).out.lay4 0 rfl); clear hb1)
          | (go_at_call 19; refine (next_as HNX.out HK1.out _).mono ?_; rintro e w5 ⟨rfl, hb1⟩; have HM5 := Lib.hid (HM4.out.call hb1); clear m00 m01 m02 m03 m00f m01f m02f m03f m0l; (obtain ⟨m00, m01, m02, m03, m00f, m01f, m02f, m03f, m0l⟩ := (HM5).out.lay4 0 rfl); clear hb1))
        go_ret
        exact ⟨rfl, HM5.out.below⟩
end Go.Proofs.Ytpkgcklnknbbcaa
