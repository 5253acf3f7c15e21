/- The reference's Apply: what is refused, and all cases joined. -/
import Derived.Test.YtpkgcklnknbbcaaR1
import Derived.Test.YtpkgcklnknbbcaaR2
import Derived.Test.YtpkgcklnknbbcaaR3
set_option linter.unusedVariables false
set_option linter.unusedSimpArgs false
set_option linter.unnecessarySimpa false
namespace Go.Proofs.Ytpkgcklnknbbcaa
open Go.RowKit

set_option maxHeartbeats 1000000 in
theorem refApply_bad (p s v k t : Int) (d : Bool) (w : World) (hk : validB p s v = false) :
    Calls Try.prog 17 #[.agg #[.int .i64 p, .int .i64 s, .int .i64 v, .bool d], .agg #[.int .i64 k, .int .i64 t]] w (RetA (zeroS, 1) w) := by
  have hv := Lib.hid hk
  clear hk
  go_enter Try.func17, Try.ntmps17
  go_wp2_with ((go_at_call 18; refine (refValid_any _ _ _ _ _).mono ?_; rintro e w1 ⟨rfl, hb1⟩; have HI := Lib.hid (enter3_call hb1); (obtain ⟨c0, c1, c2, c3⟩ := (HI).out.a
                                                                                                                                       obtain ⟨c4, c5⟩ := (HI).out.e
                                                                                                                                       obtain ⟨c6, c7, c8, c9⟩ := (HI).out.r
                                                                                                                                       have cf0 := (HI).out.fa 0
                                                                                                                                       have cf2 := (HI).out.fa 2
                                                                                                                                       have cf3 := (HI).out.fa 3
                                                                                                                                       have cg0 := (HI).out.fr 0
                                                                                                                                       have cg1 := (HI).out.fr 1
                                                                                                                                       have cg2 := (HI).out.fr 2
                                                                                                                                       have cg3 := (HI).out.fr 3); have hval := hv.out; clear hb1))
  all_goals (refine ret17 ?_ rfl ?_
             · (try rw [← HX.out])
               simp_all [results, Try.f17, go_sem, stV, zeroS]
             · (repeat with_reducible refine below_set ?_ (by omega)); with_reducible exact (HI).out.below)

set_option maxHeartbeats 1000000 in
theorem refApply_low (p s v k t : Int) (d : Bool) (w : World) (hk : validB p s v = true) (hl : k < 1) :
    Calls Try.prog 17 #[.agg #[.int .i64 p, .int .i64 s, .int .i64 v, .bool d], .agg #[.int .i64 k, .int .i64 t]] w (RetA (zeroS, 1) w) := by
  have hv := Lib.hid hk
  have hd : decide (k < 1) = true := by simpa using hl
  clear hk
  go_enter Try.func17, Try.ntmps17
  go_wp2_with ((go_at_call 18; refine (refValid_any _ _ _ _ _).mono ?_; rintro e w1 ⟨rfl, hb1⟩; have HI := Lib.hid (enter3_call hb1); (obtain ⟨c0, c1, c2, c3⟩ := (HI).out.a
                                                                                                                                       obtain ⟨c4, c5⟩ := (HI).out.e
                                                                                                                                       obtain ⟨c6, c7, c8, c9⟩ := (HI).out.r
                                                                                                                                       have cf0 := (HI).out.fa 0
                                                                                                                                       have cf2 := (HI).out.fa 2
                                                                                                                                       have cf3 := (HI).out.fa 3
                                                                                                                                       have cg0 := (HI).out.fr 0
                                                                                                                                       have cg1 := (HI).out.fr 1
                                                                                                                                       have cg2 := (HI).out.fr 2
                                                                                                                                       have cg3 := (HI).out.fr 3); have hval := hv.out; clear hb1))
  all_goals (refine ret17 ?_ rfl ?_
             · (try rw [← HX.out])
               simp_all [results, Try.f17, go_sem, stV, zeroS]
             · (repeat with_reducible refine below_set ?_ (by omega)); with_reducible exact (HI).out.below)

set_option maxHeartbeats 1000000 in
theorem refApply_high (p s v k t : Int) (d : Bool) (w : World) (hk : validB p s v = true) (hl : 8 < k) :
    Calls Try.prog 17 #[.agg #[.int .i64 p, .int .i64 s, .int .i64 v, .bool d], .agg #[.int .i64 k, .int .i64 t]] w (RetA (zeroS, 1) w) := by
  have hv := Lib.hid hk
  have hd : decide (k < 1) = false := by simp; omega
  have hd8 : decide (8 < k) = true := by simpa using hl
  clear hk
  go_enter Try.func17, Try.ntmps17
  go_wp2_with ((go_at_call 18; refine (refValid_any _ _ _ _ _).mono ?_; rintro e w1 ⟨rfl, hb1⟩; have HI := Lib.hid (enter3_call hb1); (obtain ⟨c0, c1, c2, c3⟩ := (HI).out.a
                                                                                                                                       obtain ⟨c4, c5⟩ := (HI).out.e
                                                                                                                                       obtain ⟨c6, c7, c8, c9⟩ := (HI).out.r
                                                                                                                                       have cf0 := (HI).out.fa 0
                                                                                                                                       have cf2 := (HI).out.fa 2
                                                                                                                                       have cf3 := (HI).out.fa 3
                                                                                                                                       have cg0 := (HI).out.fr 0
                                                                                                                                       have cg1 := (HI).out.fr 1
                                                                                                                                       have cg2 := (HI).out.fr 2
                                                                                                                                       have cg3 := (HI).out.fr 3); have hval := hv.out; clear hb1))
  all_goals (refine ret17 ?_ rfl ?_
             · (try rw [← HX.out])
               simp_all [results, Try.f17, go_sem, stV, zeroS]
             · (repeat with_reducible refine below_set ?_ (by omega)); with_reducible exact (HI).out.below)

set_option maxHeartbeats 1000000 in
theorem refApply_stripe (p s v k t : Int) (d : Bool) (w : World) (hk : validB p s v = true) (hl : k = 1 ∨ k = 2) (ht : t < 0 ∨ s ≤ t) :
    Calls Try.prog 17 #[.agg #[.int .i64 p, .int .i64 s, .int .i64 v, .bool d], .agg #[.int .i64 k, .int .i64 t]] w (RetA (zeroS, 5) w) := by
  have hv := Lib.hid hk
  clear hk
  by_cases h0 : t < 0
  all_goals
    first
      | (have hd : decide (t < 0) = true := by simpa using h0)
      | (have hd : decide (t < 0) = false := by simpa using h0
         have hd2 : decide (s ≤ t) = true := by simp; omega)
    rcases hl with rfl | rfl
    all_goals
      clear h0 ht
      go_enter Try.func17, Try.ntmps17
      go_wp2_with ((go_at_call 18; refine (refValid_any _ _ _ _ _).mono ?_; rintro e w1 ⟨rfl, hb1⟩; have HI := Lib.hid (enter3_call hb1); (obtain ⟨c0, c1, c2, c3⟩ := (HI).out.a
                                                                                                                                           obtain ⟨c4, c5⟩ := (HI).out.e
                                                                                                                                           obtain ⟨c6, c7, c8, c9⟩ := (HI).out.r
                                                                                                                                           have cf0 := (HI).out.fa 0
                                                                                                                                           have cf2 := (HI).out.fa 2
                                                                                                                                           have cf3 := (HI).out.fa 3
                                                                                                                                           have cg0 := (HI).out.fr 0
                                                                                                                                           have cg1 := (HI).out.fr 1
                                                                                                                                           have cg2 := (HI).out.fr 2
                                                                                                                                           have cg3 := (HI).out.fr 3); have hval := hv.out; clear hb1))
      all_goals (refine ret17 ?_ rfl ?_
                 · (try rw [← HX.out])
                   simp_all [results, Try.f17, go_sem, stV, zeroS]
                 · (repeat with_reducible refine below_set ?_ (by omega)); with_reducible exact (HI).out.below)

set_option maxHeartbeats 1000000 in
theorem refApply_over (p s v k t : Int) (d : Bool) (w : World) (hk : validB p s v = true)
    (hp : p = 4 ∨ p = 5) (hk1 : 1 ≤ k) (hk8 : k ≤ 8) (hl : (k = 1 ∨ k = 2) → 0 ≤ t ∧ t < s) :
    Calls Try.prog 17 #[.agg #[.int .i64 p, .int .i64 s, .int .i64 v, .bool d], .agg #[.int .i64 k, .int .i64 t]] w (RetA (zeroS, 110) w) := by
  have hv := Lib.hid hk
  clear hk
  have hd : decide (k < 1) = false := by simp; omega
  have hd8 : decide (8 < k) = false := by simp; omega
  have hc : (k = 1 ∧ 0 ≤ t ∧ t < s) ∨ (k = 2 ∧ 0 ≤ t ∧ t < s) ∨ (k ≠ 1 ∧ k ≠ 2) := by omega
  clear hl
  rcases hp with rfl | rfl
  all_goals
    rcases hc with ⟨rfl, h0, h1⟩ | ⟨rfl, h0, h1⟩ | ⟨h0, h1⟩
    all_goals
      first
        | (have hd0 : decide (t < 0) = false := by simpa using h0
           have hd2 : decide (s ≤ t) = false := by simpa using h1
           clear h0 h1)
        | (have he1 : (k == 1) = false := by simpa using h0
           have he2 : (k == 2) = false := by simpa using h1
           clear h0 h1)
      clear hk1 hk8
      go_enter Try.func17, Try.ntmps17
      go_wp2_with ((go_at_call 18; refine (refValid_any _ _ _ _ _).mono ?_; rintro e w1 ⟨rfl, hb1⟩; have HI := Lib.hid (enter3_call hb1); (obtain ⟨c0, c1, c2, c3⟩ := (HI).out.a
                                                                                                                                           obtain ⟨c4, c5⟩ := (HI).out.e
                                                                                                                                           obtain ⟨c6, c7, c8, c9⟩ := (HI).out.r
                                                                                                                                           have cf0 := (HI).out.fa 0
                                                                                                                                           have cf2 := (HI).out.fa 2
                                                                                                                                           have cf3 := (HI).out.fa 3
                                                                                                                                           have cg0 := (HI).out.fr 0
                                                                                                                                           have cg1 := (HI).out.fr 1
                                                                                                                                           have cg2 := (HI).out.fr 2
                                                                                                                                           have cg3 := (HI).out.fr 3); have hval := hv.out; clear hb1))
      all_goals (refine ret17 ?_ rfl ?_
                 · (try rw [← HX.out])
                   simp_all [results, Try.f17, go_sem, stV, zeroS]
                 · (repeat with_reducible refine below_set ?_ (by omega)); with_reducible exact (HI).out.below)

theorem refApply_any (p s v k t : Int) (d : Bool) (w : World) :
    Calls Try.prog 17 #[.agg #[.int .i64 p, .int .i64 s, .int .i64 v, .bool d], .agg #[.int .i64 k, .int .i64 t]] w (RetA (applyF p s v d k t) w) := by
  cases hb : validB p s v with
  | false => rw [show applyF p s v d k t = (zeroS, 1) by simp [applyF, hb]]; exact refApply_bad _ _ _ _ _ _ _ hb
  | true =>
    rcases Int.lt_or_le k 1 with hl | hl
    · rw [show applyF p s v d k t = (zeroS, 1) by simp [applyF, hb, hl]]; exact refApply_low _ _ _ _ _ _ _ hb hl
    rcases Int.lt_or_le 8 k with hh | hh
    · rw [show applyF p s v d k t = (zeroS, 1) by simp [applyF, hb, hh]]; exact refApply_high _ _ _ _ _ _ _ hb hh
    have hn1 : ¬ (validB p s v = false ∨ k < 1 ∨ 8 < k) := by simp [hb]; omega
    by_cases hst : (k = 1 ∨ k = 2) ∧ (t < 0 ∨ s ≤ t)
    · rw [show applyF p s v d k t = (zeroS, 5) by unfold applyF; rw [if_neg hn1, if_pos hst]]; exact refApply_stripe _ _ _ _ _ _ _ hb hst.1 hst.2
    by_cases hp : p = 4 ∨ p = 5
    · rw [show applyF p s v d k t = (zeroS, 110) by unfold applyF; rw [if_neg hn1, if_neg hst, if_pos hp]]
      exact refApply_over _ _ _ _ _ _ _ hb hp hl hh (by omega)
    have hx : applyF p s v d k t = (if k = 3 then ((p, s, v, false), 0)
      else if k = 4 then ((p, s, v, true), 0)
      else if k = 6 then (if p = 2 then ((3, s, v, d), 0) else (zeroS, 110))
      else if k = 7 then (if p = 3 then ((4, s, v, d), 0) else (zeroS, 110))
      else if p = 3 then (zeroS, 110)
      else if k = 1 then ((if orBit v t = allOf s then 2 else 1, s, orBit v t, d), 0)
      else if k = 2 then ((1, s, clearBit v t, d), 0)
      else ((5, s, v, d), 0)) := by unfold applyF; rw [if_neg hn1, if_neg hst, if_neg hp]
    rw [hx]
    clear hx
    have hp' : p = 1 ∨ p = 2 ∨ p = 3 := by have := valid_phase hb; omega
    obtain ⟨b1, b4, b0, b2⟩ := valid_bounds hb
    have hk : k = 1 ∨ k = 2 ∨ k = 3 ∨ k = 4 ∨ k = 5 ∨ k = 6 ∨ k = 7 ∨ k = 8 := by omega
    have hph := valid_phase hb
    rcases hp' with rfl | rfl | rfl
    · rcases hk with rfl | rfl | rfl | rfl | rfl | rfl | rfl | rfl
      · exact refApply_11 _ _ _ _ _ hb (by omega) (by omega)
      · exact refApply_12 _ _ _ _ _ hb (by omega) (by omega)
      · exact refApply_13 _ _ _ _ _ hb
      · exact refApply_14 _ _ _ _ _ hb
      · exact refApply_15 _ _ _ _ _ hb
      · exact refApply_16 _ _ _ _ _ hb
      · exact refApply_17 _ _ _ _ _ hb
      · exact refApply_18 _ _ _ _ _ hb
    · rcases hk with rfl | rfl | rfl | rfl | rfl | rfl | rfl | rfl
      · have hv : v = allOf s := by omega
        have := refApply_21 s v t d w hb (by omega) (by omega)
        simpa [hv, or_all b1 b4 (show 0 ≤ t by omega) (show t < s by omega)] using this
      · exact refApply_22 _ _ _ _ _ hb (by omega) (by omega)
      · exact refApply_23 _ _ _ _ _ hb
      · exact refApply_24 _ _ _ _ _ hb
      · exact refApply_25 _ _ _ _ _ hb
      · exact refApply_26 _ _ _ _ _ hb
      · exact refApply_27 _ _ _ _ _ hb
      · exact refApply_28 _ _ _ _ _ hb
    · rcases hk with rfl | rfl | rfl | rfl | rfl | rfl | rfl | rfl
      · exact refApply_31 _ _ _ _ _ hb (by omega) (by omega)
      · exact refApply_32 _ _ _ _ _ hb (by omega) (by omega)
      · exact refApply_33 _ _ _ _ _ hb
      · exact refApply_34 _ _ _ _ _ hb
      · exact refApply_35 _ _ _ _ _ hb
      · exact refApply_36 _ _ _ _ _ hb
      · exact refApply_37 _ _ _ _ _ hb
      · exact refApply_38 _ _ _ _ _ hb

end Go.Proofs.Ytpkgcklnknbbcaa
