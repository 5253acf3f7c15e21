/- The walk of MoveKeeps. -/
import Derived.Test.YtpkgcklnknbbcaaLate2
import Derived.Test.YtpkgcklnknbbcaaO1
set_option linter.unusedVariables false
set_option linter.unusedSimpArgs false
set_option linter.unnecessarySimpa false
namespace Go.Proofs.Ytpkgcklnknbbcaa
open Go.RowKit

theorem keeps_late {p s v : Int} {d : Bool} (h : validB p s v = true) (hp : p = 4 ∨ p = 5) : applyF p s v d 3 0 = ((0, 0, 0, false), 110) ∧ applyF p s v d 4 0 = ((0, 0, 0, false), 110) ∧ nextF p s v d = (0, 0) := by
  rcases hp with rfl | rfl <;> simp [applyF, nextF, h, zeroS]
theorem keeps_next {p s v : Int} (h : validB p s v = true) (hp : p = 1 ∨ p = 2 ∨ p = 3) : ∃ k k' t, nextF p s v false = (k, t) ∧ nextF p s v true = (k', t) ∧ (p = 1 → k = 2 ∧ k' = 1) ∧ (p ≠ 1 → k = k') := by
  rcases hp with rfl | rfl | rfl
  · exact ⟨2, 1, firstClear v, by simp [nextF, h], by simp [nextF, h], fun _ => ⟨rfl, rfl⟩, fun h => absurd rfl h⟩
  · exact ⟨3, 3, 0, by simp [nextF, h], by simp [nextF, h], fun h => by omega, fun _ => rfl⟩
  · exact ⟨4, 4, 0, by simp [nextF, h], by simp [nextF, h], fun h => by omega, fun _ => rfl⟩

theorem put_norm {K : Act → Prop} {a : Act} (h : ∀ K' : Act → Prop, (∀ a, K a → K' a) → K' a) : K a := h K (fun _ h => h)




set_option maxRecDepth 100000 in
set_option maxHeartbeats 4000000 in
theorem keeps_any (p s v : Int) (d : Bool) (w : World) (hp : In64 p) (hs : In64 s) (hv : In64 v) :
    Calls Try.prog 7 #[.agg #[.int .i64 p, .int .i64 s, .int .i64 v, .bool d]] w (RetB true w) := by
  obtain ⟨P, S, V, hn, hk⟩ := near_valid p s v d
  have HN := Lib.hid hn
  have HK := Lib.hid hk
  have HP := Lib.hid (And.intro hp (And.intro hs hv))
  have hph := valid_phase hk
  have hpp : (P = 4 ∨ P = 5) ∨ (P = 1 ∨ P = 2 ∨ P = 3) := by omega
  rcases hpp with hpp | hpp
  · have HA := Lib.hid (keeps_late (d := d) hk hpp)
    clear hn hk hp hs hv hph
    rcases hpp with rfl | rfl
    all_goals
      have tok1 : True := trivial
      go_enter Try.func7, Try.ntmps7
      go_wp2_with (first
        | (go_at_call 15; refine (near_as HN.out _ HP.out.1 HP.out.2.1 HP.out.2.2).mono ?_; rintro e w1 ⟨rfl, hb1⟩; have HM1 := Lib.hid ((Mm.box _ _).call hb1); (obtain ⟨m00, m01, m02, m03, m00f, m01f, m02f, m03f, m0l⟩ := (HM1).out.lay4 0 rfl); clear hb1)
        | (go_at_call 16; have _t := tok1; refine (apply_as HA.out.1 _ (valid_i64 HK.out).1 (valid_i64 HK.out).2).mono ?_; rintro e w2 ⟨rfl, hb1⟩; have HM2 := Lib.hid (show Mm w w2 [(w.heap.size, #[_, .int .i64 S, .int .i64 V, .bool d])] from (HM1.out.put4 0 rfl _ _ _ _).call hb1); clear m00 m01 m02 m03 m00f m01f m02f m03f m0l; (obtain ⟨m00, m01, m02, m03, m00f, m01f, m02f, m03f, m0l⟩ := (HM2).out.lay4 0 rfl); clear hb1 tok1 _t)
        | (go_at_call 16; refine (apply_as HA.out.2.1 _ (valid_i64 HK.out).1 (valid_i64 HK.out).2).mono ?_; rintro e w3 ⟨rfl, hb1⟩; have HM3 := Lib.hid ((HM2.out.alloc _).call hb1); clear m00 m01 m02 m03 m00f m01f m02f m03f m0l; (obtain ⟨m00, m01, m02, m03, m00f, m01f, m02f, m03f, m0l⟩ := (HM3).out.lay4 0 rfl); clear hb1)
        | (go_at_call 13; refine (awake_any _).mono ?_; rintro e w4 ⟨rfl, hb1⟩; have HM4 := Lib.hid ((HM3.out.alloc _).call hb1); clear m00 m01 m02 m03 m00f m01f m02f m03f m0l; (obtain ⟨m00, m01, m02, m03, m00f, m01f, m02f, m03f, m0l⟩ := (HM4).out.lay4 0 rfl); clear hb1)
        | (go_at_call 19; refine (next_as HA.out.2.2 HK.out _).mono ?_; rintro e w5 ⟨rfl, hb1⟩; have HM5 := Lib.hid (HM4.out.call hb1); clear m00 m01 m02 m03 m00f m01f m02f m03f m0l; (obtain ⟨m00, m01, m02, m03, m00f, m01f, m02f, m03f, m0l⟩ := (HM5).out.lay4 0 rfl); clear hb1))
      go_ret
      exact ⟨rfl, HM5.out.below⟩
  · obtain ⟨kf, kt, t, hx1, hx2, hx3, hx4⟩ := keeps_next hk hpp
    have HA := Lib.hid (home_step (d := d) hk hpp)
    have HX1 := Lib.hid hx1
    have HX2 := Lib.hid hx2
    have HX3 := Lib.hid hx3
    have HX4 := Lib.hid hx4
    clear hn hp hs hv hph hx1 hx2 hx3 hx4
    have h3 : decide (3 < P) = false := by simp; omega
    have HPP := Lib.hid hpp
    clear hk hpp
    have tok1 : True := trivial
    go_enter Try.func7, Try.ntmps7
    go_wp2_with (first
      | (go_at_call 15; refine (near_as HN.out _ HP.out.1 HP.out.2.1 HP.out.2.2).mono ?_; rintro e w1 ⟨rfl, hb1⟩; have HM1 := Lib.hid ((Mm.box _ _).call hb1); (obtain ⟨m00, m01, m02, m03, m00f, m01f, m02f, m03f, m0l⟩ := (HM1).out.lay4 0 rfl); clear hb1)
      | (go_at_call 16; have _t := tok1; refine (apply_as HA.out.1 _ (valid_i64 HK.out).1 (valid_i64 HK.out).2).mono ?_; rintro e w2 ⟨rfl, hb1⟩; have HM2 := Lib.hid (show Mm w w2 [(w.heap.size, #[.int .i64 P, .int .i64 S, .int .i64 V, .bool d])] from (HM1.out.put4 0 rfl _ _ _ _).call hb1); clear m00 m01 m02 m03 m00f m01f m02f m03f m0l; (obtain ⟨m00, m01, m02, m03, m00f, m01f, m02f, m03f, m0l⟩ := (HM2).out.lay4 0 rfl); clear hb1 tok1 _t)
      | (go_at_call 16; refine (apply_as HA.out.2 _ (valid_i64 HK.out).1 (valid_i64 HK.out).2).mono ?_; rintro e w3 ⟨rfl, hb1⟩; have HM3 := Lib.hid ((HM2.out.push w2.heap.size #[.int .i64 P, .int .i64 S, .int .i64 V, .bool false] 23 rfl).call hb1); clear m00 m01 m02 m03 m00f m01f m02f m03f m0l; (obtain ⟨m00, m01, m02, m03, m00f, m01f, m02f, m03f, m0l⟩ := (HM3).out.lay4 0 rfl; obtain ⟨m10, m11, m12, m13, m10f, m11f, m12f, m13f, m1l⟩ := (HM3).out.lay4 1 rfl); clear hb1))
    have HM4 := Lib.hid (show Mm w _ [(w3.heap.size, #[.int .i64 P, .int .i64 S, .int .i64 V, .bool true]), (w2.heap.size, #[.int .i64 P, .int .i64 S, .int .i64 V, .bool false]), (w.heap.size, #[.int .i64 P, .int .i64 S, .int .i64 V, .bool d])] from HM3.out.push w3.heap.size _ 23 rfl)
    clear m00 m01 m02 m03 m00f m01f m02f m03f m0l m10 m11 m12 m13 m10f m11f m12f m13f m1l
    generalize w3.alloc (.cells #[.int .i64 P, .int .i64 S, .int .i64 V, .bool true] 23) = wr at *
    refine wp_region_late2 (Up w wr [(w3.heap.size, #[.int .i64 P, .int .i64 S, .int .i64 V, .bool true]), (w2.heap.size, #[.int .i64 P, .int .i64 S, .int .i64 V, .bool false]), (w.heap.size, #[.int .i64 P, .int .i64 S, .int .i64 V, .bool d])]) 4 4 (by kernel_rfl) (by kernel_rfl) rfl (by kernel_rfl) Up.stable (Up.start HM4.out) ?_
    simp only [List.take_succ_cons, List.take_zero, List.drop_succ_cons, List.drop_zero]
    repeat first
             | (apply bRow_plain
                · exact rfl
                · intro wg hg
                  ((have hgm : Mm w wg _ := hg.1; (obtain ⟨x00, x01, x02, x03, -⟩ := hgm.lay4 0 rfl; obtain ⟨x10, x11, x12, x13, -⟩ := hgm.lay4 1 rfl; obtain ⟨x20, x21, x22, x23, -⟩ := hgm.lay4 2 rfl)))
                  go_simp
                  first
                    | exact rfl
                    | exact Below.refl _ _
                    | exact ⟨Below.refl _ _, rfl⟩
                    | ((first | ((with_reducible refine (next_as HX1.out HK.out _).mono ?_); rintro e w1 ⟨rfl, hb1⟩; exact ⟨rfl, hb1⟩) | ((with_reducible refine (next_as HX2.out HK.out _).mono ?_); rintro e w1 ⟨rfl, hb1⟩; exact ⟨rfl, hb1⟩)))
                intro K hK
                go_simp
                refine hK _ ?_
                clear hK K)
             | (apply bRow_step
                · go_simp; done
                · intro wg hg
                  ((have hgm : Mm w wg _ := hg.1; (obtain ⟨x00, x01, x02, x03, -⟩ := hgm.lay4 0 rfl; obtain ⟨x10, x11, x12, x13, -⟩ := hgm.lay4 1 rfl; obtain ⟨x20, x21, x22, x23, -⟩ := hgm.lay4 2 rfl)))
                  go_simp
                  first
                    | exact rfl
                    | exact Below.refl _ _
                    | exact ⟨Below.refl _ _, rfl⟩
                    | ((first | ((with_reducible refine (next_as HX1.out HK.out _).mono ?_); rintro e w1 ⟨rfl, hb1⟩; exact ⟨rfl, hb1⟩) | ((with_reducible refine (next_as HX2.out HK.out _).mono ?_); rintro e w1 ⟨rfl, hb1⟩; exact ⟨rfl, hb1⟩)))
                intro K hK
                go_simp
                refine hK _ ?_
                clear hK K)
             | (apply bRow_not
                · go_simp; done
                intro K hK
                go_simp
                refine hK _ ?_
                clear hK K)
    refine bRow_nil ?_
    refine lAny_step [4, 5] (by kernel_rfl) (by decide) ?_
    intro i hi
    have hi' : i = 4 ∨ i = 5 := by simpa using hi
    clear hi
    rcases hi' with rfl | rfl
    · refine lOp_alloc rfl wr.heap.size #[.int .i64 0, .int .i64 0] 36 Up.stable (fun _ h => h.2) (fun _ h => h) rfl (by intro w0; go_simp) ?_
      intro b7
      (refine put_norm (K := lAny Try.prog .any _ _ _ _ _ _) ?_
       intro K hK
       go_simp
       refine hK _ ?_
       clear hK K)
      refine lAny_step [5] (by kernel_rfl) (by decide) ?_
      intro i hi
      obtain rfl : i = 5 := by simpa using hi
      refine lOp_alloc2 rfl #[.int .i64 0, .int .i64 0] 36 Up.stable (fun _ h => h.2) rfl (by intro w0; go_simp) ?_
      intro b8
      (refine put_norm (K := lAny Try.prog .any _ _ _ _ _ _) ?_
       intro K hK
       go_simp
       refine hK _ ?_
       clear hK K)
      (refine lAny_step [6] (by kernel_rfl) (by decide) ?_
       intro i hi
       obtain rfl : i = 6 := by simpa using hi
       refine lOp_store rfl [.int .i64 kf, .int .i64 t] Up.stable (Up.set HM4.out) rfl rfl (by intro w0 h0; obtain ⟨x0, x1, x0f, x1f, xl⟩ := (h0).lay2; go_simp; rfl) ?_
       (refine put_norm (K := lAny Try.prog .any _ _ _ _ _ _) ?_
        intro K hK
        go_simp
        refine hK _ ?_
        clear hK K)
       rw [With2.swap]
       refine lAny_step [7] (by kernel_rfl) (by decide) ?_
       intro i hi
       obtain rfl : i = 7 := by simpa using hi
       refine lOp_store rfl [.int .i64 kt, .int .i64 t] Up.stable (Up.set HM4.out) rfl rfl (by intro w0 h0; obtain ⟨x0, x1, x0f, x1f, xl⟩ := (h0).lay2; go_simp; rfl) ?_
       (refine put_norm (K := lAny Try.prog .any _ _ _ _ _ _) ?_
        intro K hK
        go_simp
        refine hK _ ?_
        clear hK K)
       refine lAny_end (by kernel_rfl) ?_
       intro w5 hW5
       have HM5 := Lib.hid (show Mm w w5 [(b8, #[.int .i64 kt, .int .i64 t]), (b7, #[.int .i64 kf, .int .i64 t]), (w3.heap.size, #[.int .i64 P, .int .i64 S, .int .i64 V, .bool true]), (w2.heap.size, #[.int .i64 P, .int .i64 S, .int .i64 V, .bool false]), (w.heap.size, #[.int .i64 P, .int .i64 S, .int .i64 V, .bool d])] from hW5.mm HM4.out)
       clear hW5
       (obtain ⟨m00, m01, m00f, m01f, m0l⟩ := (HM5).out.lay2 0 rfl; obtain ⟨m10, m11, m10f, m11f, m1l⟩ := (HM5).out.lay2 1 rfl; obtain ⟨m20, m21, m22, m23, m20f, m21f, m22f, m23f, m2l⟩ := (HM5).out.lay4 2 rfl; obtain ⟨m30, m31, m32, m33, m30f, m31f, m32f, m33f, m3l⟩ := (HM5).out.lay4 3 rfl; obtain ⟨m40, m41, m42, m43, m40f, m41f, m42f, m43f, m4l⟩ := (HM5).out.lay4 4 rfl)
       by_cases hP1 : P = 1
       · obtain ⟨e1, e2⟩ := HX3.out hP1
         subst e1 e2
         have hb : (P == 1) = true := by simpa using hP1
         have hb2 : (P != 1) = false := by simpa using hP1
         have HP1 := Lib.hid hP1
         clear hP1
         (go_wp2_with (go_at_call 13; refine (awake_any _).mono ?_; rintro e w6 ⟨rfl, hb1⟩; have HM6 := Lib.hid (HM5.out.call hb1); clear m00 m01 m00f m01f m0l m10 m11 m10f m11f m1l m20 m21 m22 m23 m20f m21f m22f m23f m2l m30 m31 m32 m33 m30f m31f m32f m33f m3l m40 m41 m42 m43 m40f m41f m42f m43f m4l; (obtain ⟨m00, m01, m00f, m01f, m0l⟩ := (HM6).out.lay2 0 rfl; obtain ⟨m10, m11, m10f, m11f, m1l⟩ := (HM6).out.lay2 1 rfl; obtain ⟨m20, m21, m22, m23, m20f, m21f, m22f, m23f, m2l⟩ := (HM6).out.lay4 2 rfl; obtain ⟨m30, m31, m32, m33, m30f, m31f, m32f, m33f, m3l⟩ := (HM6).out.lay4 3 rfl; obtain ⟨m40, m41, m42, m43, m40f, m41f, m42f, m43f, m4l⟩ := (HM6).out.lay4 4 rfl); clear hb1)
          go_ret
          exact ⟨rfl, HM6.out.below⟩)
       · have e1 := HX4.out hP1
         subst e1
         have hb : (P == 1) = false := by simpa using hP1
         have hb2 : (P != 1) = true := by simpa using hP1
         have HP1 := Lib.hid hP1
         clear hP1
         (go_wp2_with (go_at_call 13; refine (awake_any _).mono ?_; rintro e w6 ⟨rfl, hb1⟩; have HM6 := Lib.hid (HM5.out.call hb1); clear m00 m01 m00f m01f m0l m10 m11 m10f m11f m1l m20 m21 m22 m23 m20f m21f m22f m23f m2l m30 m31 m32 m33 m30f m31f m32f m33f m3l m40 m41 m42 m43 m40f m41f m42f m43f m4l; (obtain ⟨m00, m01, m00f, m01f, m0l⟩ := (HM6).out.lay2 0 rfl; obtain ⟨m10, m11, m10f, m11f, m1l⟩ := (HM6).out.lay2 1 rfl; obtain ⟨m20, m21, m22, m23, m20f, m21f, m22f, m23f, m2l⟩ := (HM6).out.lay4 2 rfl; obtain ⟨m30, m31, m32, m33, m30f, m31f, m32f, m33f, m3l⟩ := (HM6).out.lay4 3 rfl; obtain ⟨m40, m41, m42, m43, m40f, m41f, m42f, m43f, m4l⟩ := (HM6).out.lay4 4 rfl); clear hb1)
          go_ret
          exact ⟨rfl, HM6.out.below⟩))
    · refine lOp_alloc rfl wr.heap.size #[.int .i64 0, .int .i64 0] 36 Up.stable (fun _ h => h.2) (fun _ h => h) rfl (by intro w0; go_simp) ?_
      intro b8
      (refine put_norm (K := lAny Try.prog .any _ _ _ _ _ _) ?_
       intro K hK
       go_simp
       refine hK _ ?_
       clear hK K)
      refine lAny_step [4] (by kernel_rfl) (by decide) ?_
      intro i hi
      obtain rfl : i = 4 := by simpa using hi
      refine lOp_alloc2 rfl #[.int .i64 0, .int .i64 0] 36 Up.stable (fun _ h => h.2) rfl (by intro w0; go_simp) ?_
      intro b7
      rw [With2.swap]
      (refine put_norm (K := lAny Try.prog .any _ _ _ _ _ _) ?_
       intro K hK
       go_simp
       refine hK _ ?_
       clear hK K)
      (refine lAny_step [6] (by kernel_rfl) (by decide) ?_
       intro i hi
       obtain rfl : i = 6 := by simpa using hi
       refine lOp_store rfl [.int .i64 kf, .int .i64 t] Up.stable (Up.set HM4.out) rfl rfl (by intro w0 h0; obtain ⟨x0, x1, x0f, x1f, xl⟩ := (h0).lay2; go_simp; rfl) ?_
       (refine put_norm (K := lAny Try.prog .any _ _ _ _ _ _) ?_
        intro K hK
        go_simp
        refine hK _ ?_
        clear hK K)
       rw [With2.swap]
       refine lAny_step [7] (by kernel_rfl) (by decide) ?_
       intro i hi
       obtain rfl : i = 7 := by simpa using hi
       refine lOp_store rfl [.int .i64 kt, .int .i64 t] Up.stable (Up.set HM4.out) rfl rfl (by intro w0 h0; obtain ⟨x0, x1, x0f, x1f, xl⟩ := (h0).lay2; go_simp; rfl) ?_
       (refine put_norm (K := lAny Try.prog .any _ _ _ _ _ _) ?_
        intro K hK
        go_simp
        refine hK _ ?_
        clear hK K)
       refine lAny_end (by kernel_rfl) ?_
       intro w5 hW5
       have HM5 := Lib.hid (show Mm w w5 [(b8, #[.int .i64 kt, .int .i64 t]), (b7, #[.int .i64 kf, .int .i64 t]), (w3.heap.size, #[.int .i64 P, .int .i64 S, .int .i64 V, .bool true]), (w2.heap.size, #[.int .i64 P, .int .i64 S, .int .i64 V, .bool false]), (w.heap.size, #[.int .i64 P, .int .i64 S, .int .i64 V, .bool d])] from hW5.mm HM4.out)
       clear hW5
       (obtain ⟨m00, m01, m00f, m01f, m0l⟩ := (HM5).out.lay2 0 rfl; obtain ⟨m10, m11, m10f, m11f, m1l⟩ := (HM5).out.lay2 1 rfl; obtain ⟨m20, m21, m22, m23, m20f, m21f, m22f, m23f, m2l⟩ := (HM5).out.lay4 2 rfl; obtain ⟨m30, m31, m32, m33, m30f, m31f, m32f, m33f, m3l⟩ := (HM5).out.lay4 3 rfl; obtain ⟨m40, m41, m42, m43, m40f, m41f, m42f, m43f, m4l⟩ := (HM5).out.lay4 4 rfl)
       by_cases hP1 : P = 1
       · obtain ⟨e1, e2⟩ := HX3.out hP1
         subst e1 e2
         have hb : (P == 1) = true := by simpa using hP1
         have hb2 : (P != 1) = false := by simpa using hP1
         have HP1 := Lib.hid hP1
         clear hP1
         (go_wp2_with (go_at_call 13; refine (awake_any _).mono ?_; rintro e w6 ⟨rfl, hb1⟩; have HM6 := Lib.hid (HM5.out.call hb1); clear m00 m01 m00f m01f m0l m10 m11 m10f m11f m1l m20 m21 m22 m23 m20f m21f m22f m23f m2l m30 m31 m32 m33 m30f m31f m32f m33f m3l m40 m41 m42 m43 m40f m41f m42f m43f m4l; (obtain ⟨m00, m01, m00f, m01f, m0l⟩ := (HM6).out.lay2 0 rfl; obtain ⟨m10, m11, m10f, m11f, m1l⟩ := (HM6).out.lay2 1 rfl; obtain ⟨m20, m21, m22, m23, m20f, m21f, m22f, m23f, m2l⟩ := (HM6).out.lay4 2 rfl; obtain ⟨m30, m31, m32, m33, m30f, m31f, m32f, m33f, m3l⟩ := (HM6).out.lay4 3 rfl; obtain ⟨m40, m41, m42, m43, m40f, m41f, m42f, m43f, m4l⟩ := (HM6).out.lay4 4 rfl); clear hb1)
          go_ret
          exact ⟨rfl, HM6.out.below⟩)
       · have e1 := HX4.out hP1
         subst e1
         have hb : (P == 1) = false := by simpa using hP1
         have hb2 : (P != 1) = true := by simpa using hP1
         have HP1 := Lib.hid hP1
         clear hP1
         (go_wp2_with (go_at_call 13; refine (awake_any _).mono ?_; rintro e w6 ⟨rfl, hb1⟩; have HM6 := Lib.hid (HM5.out.call hb1); clear m00 m01 m00f m01f m0l m10 m11 m10f m11f m1l m20 m21 m22 m23 m20f m21f m22f m23f m2l m30 m31 m32 m33 m30f m31f m32f m33f m3l m40 m41 m42 m43 m40f m41f m42f m43f m4l; (obtain ⟨m00, m01, m00f, m01f, m0l⟩ := (HM6).out.lay2 0 rfl; obtain ⟨m10, m11, m10f, m11f, m1l⟩ := (HM6).out.lay2 1 rfl; obtain ⟨m20, m21, m22, m23, m20f, m21f, m22f, m23f, m2l⟩ := (HM6).out.lay4 2 rfl; obtain ⟨m30, m31, m32, m33, m30f, m31f, m32f, m33f, m3l⟩ := (HM6).out.lay4 3 rfl; obtain ⟨m40, m41, m42, m43, m40f, m41f, m42f, m43f, m4l⟩ := (HM6).out.lay4 4 rfl); clear hb1)
          go_ret
          exact ⟨rfl, HM6.out.below⟩))
end Go.Proofs.Ytpkgcklnknbbcaa
