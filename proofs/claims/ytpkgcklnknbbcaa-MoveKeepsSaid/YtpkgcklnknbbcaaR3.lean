/- The walk of the reference's Apply. -/
import Derived.Test.YtpkgcklnknbbcaaR0
set_option linter.unusedVariables false
set_option linter.unusedSimpArgs false
set_option linter.unnecessarySimpa false
namespace Go.Proofs.Ytpkgcklnknbbcaa
open Go.RowKit

set_option maxHeartbeats 1000000 in
theorem refApply_31 (s v t : Int) (d : Bool) (w : World) (hk : validB 3 s v = true) (h0 : 0 ≤ t) (ht : t < s) :
    Calls Try.prog 17 #[.agg #[.int .i64 3, .int .i64 s, .int .i64 v, .bool d], .agg #[.int .i64 1, .int .i64 t]] w (RetA (zeroS, 110) w) := by
  obtain ⟨h1, h4, h2, h3⟩ := valid_bounds hk
  have h15 := allOf_le h1 h4
  have ht64 : t ≤ 64 := by omega
  have hlt : decide (t < 0) = false := by simpa using h0
  have hge : decide (s ≤ t) = false := by simpa using ht
  have hv := Lib.hid hk
  clear hk h15 h2 h3
  go_enter Try.func17, Try.ntmps17
  go_wp2_with ((go_at_call 18; refine (refValid_any _ _ _ _ _).mono ?_; rintro e w1 ⟨rfl, hb1⟩; have HI := Lib.hid (enter3_call hb1); (obtain ⟨c0, c1, c2, c3⟩ := (HI).out.a
                                                                                                                                       obtain ⟨c4, c5⟩ := (HI).out.e
                                                                                                                                       obtain ⟨c6, c7, c8, c9⟩ := (HI).out.r
                                                                                                                                       have cf0 := (HI).out.fa 0
                                                                                                                                       have cf2 := (HI).out.fa 2
                                                                                                                                       have cf3 := (HI).out.fa 3
                                                                                                                                       have cg0 := (HI).out.fr 0
                                                                                                                                       have cg1 := (HI).out.fr 1
                                                                                                                                       have cg2 := (HI).out.fr 2
                                                                                                                                       have cg3 := (HI).out.fr 3); have hval := hv.out; clear hb1))
  all_goals (refine ret17 ?_ rfl ?_
             · (try rw [← HX.out])
               simp_all [results, Try.f17, go_sem, stV, zeroS]
             · (repeat with_reducible refine below_set ?_ (by omega)); with_reducible exact (HI).out.below)

set_option maxHeartbeats 1000000 in
theorem refApply_32 (s v t : Int) (d : Bool) (w : World) (hk : validB 3 s v = true) (h0 : 0 ≤ t) (ht : t < s) :
    Calls Try.prog 17 #[.agg #[.int .i64 3, .int .i64 s, .int .i64 v, .bool d], .agg #[.int .i64 2, .int .i64 t]] w (RetA (zeroS, 110) w) := by
  obtain ⟨h1, h4, h2, h3⟩ := valid_bounds hk
  have h15 := allOf_le h1 h4
  have ht64 : t ≤ 64 := by omega
  have hlt : decide (t < 0) = false := by simpa using h0
  have hge : decide (s ≤ t) = false := by simpa using ht
  have hv := Lib.hid hk
  clear hk h15 h2 h3
  go_enter Try.func17, Try.ntmps17
  go_wp2_with ((go_at_call 18; refine (refValid_any _ _ _ _ _).mono ?_; rintro e w1 ⟨rfl, hb1⟩; have HI := Lib.hid (enter3_call hb1); (obtain ⟨c0, c1, c2, c3⟩ := (HI).out.a
                                                                                                                                       obtain ⟨c4, c5⟩ := (HI).out.e
                                                                                                                                       obtain ⟨c6, c7, c8, c9⟩ := (HI).out.r
                                                                                                                                       have cf0 := (HI).out.fa 0
                                                                                                                                       have cf2 := (HI).out.fa 2
                                                                                                                                       have cf3 := (HI).out.fa 3
                                                                                                                                       have cg0 := (HI).out.fr 0
                                                                                                                                       have cg1 := (HI).out.fr 1
                                                                                                                                       have cg2 := (HI).out.fr 2
                                                                                                                                       have cg3 := (HI).out.fr 3); have hval := hv.out; clear hb1))
  all_goals (refine ret17 ?_ rfl ?_
             · (try rw [← HX.out])
               simp_all [results, Try.f17, go_sem, stV, zeroS]
             · (repeat with_reducible refine below_set ?_ (by omega)); with_reducible exact (HI).out.below)

set_option maxHeartbeats 1000000 in
theorem refApply_33 (s v t : Int) (d : Bool) (w : World) (hk : validB 3 s v = true) :
    Calls Try.prog 17 #[.agg #[.int .i64 3, .int .i64 s, .int .i64 v, .bool d], .agg #[.int .i64 3, .int .i64 t]] w (RetA ((3, s, v, false), 0) w) := by
  obtain ⟨h1, h4, h2, h3⟩ := valid_bounds hk
  have h15 := allOf_le h1 h4
  have hv := Lib.hid hk
  clear hk h15 h2 h3
  go_enter Try.func17, Try.ntmps17
  go_wp2_with ((go_at_call 18; refine (refValid_any _ _ _ _ _).mono ?_; rintro e w1 ⟨rfl, hb1⟩; have HI := Lib.hid (enter3_call hb1); (obtain ⟨c0, c1, c2, c3⟩ := (HI).out.a
                                                                                                                                       obtain ⟨c4, c5⟩ := (HI).out.e
                                                                                                                                       obtain ⟨c6, c7, c8, c9⟩ := (HI).out.r
                                                                                                                                       have cf0 := (HI).out.fa 0
                                                                                                                                       have cf2 := (HI).out.fa 2
                                                                                                                                       have cf3 := (HI).out.fa 3
                                                                                                                                       have cg0 := (HI).out.fr 0
                                                                                                                                       have cg1 := (HI).out.fr 1
                                                                                                                                       have cg2 := (HI).out.fr 2
                                                                                                                                       have cg3 := (HI).out.fr 3); have hval := hv.out; clear hb1))
  all_goals (refine ret17 ?_ rfl ?_
             · (try rw [← HX.out])
               simp_all [results, Try.f17, go_sem, stV, zeroS]
             · (repeat with_reducible refine below_set ?_ (by omega)); with_reducible exact (HI).out.below)

set_option maxHeartbeats 1000000 in
theorem refApply_34 (s v t : Int) (d : Bool) (w : World) (hk : validB 3 s v = true) :
    Calls Try.prog 17 #[.agg #[.int .i64 3, .int .i64 s, .int .i64 v, .bool d], .agg #[.int .i64 4, .int .i64 t]] w (RetA ((3, s, v, true), 0) w) := by
  obtain ⟨h1, h4, h2, h3⟩ := valid_bounds hk
  have h15 := allOf_le h1 h4
  have hv := Lib.hid hk
  clear hk h15 h2 h3
  go_enter Try.func17, Try.ntmps17
  go_wp2_with ((go_at_call 18; refine (refValid_any _ _ _ _ _).mono ?_; rintro e w1 ⟨rfl, hb1⟩; have HI := Lib.hid (enter3_call hb1); (obtain ⟨c0, c1, c2, c3⟩ := (HI).out.a
                                                                                                                                       obtain ⟨c4, c5⟩ := (HI).out.e
                                                                                                                                       obtain ⟨c6, c7, c8, c9⟩ := (HI).out.r
                                                                                                                                       have cf0 := (HI).out.fa 0
                                                                                                                                       have cf2 := (HI).out.fa 2
                                                                                                                                       have cf3 := (HI).out.fa 3
                                                                                                                                       have cg0 := (HI).out.fr 0
                                                                                                                                       have cg1 := (HI).out.fr 1
                                                                                                                                       have cg2 := (HI).out.fr 2
                                                                                                                                       have cg3 := (HI).out.fr 3); have hval := hv.out; clear hb1))
  all_goals (refine ret17 ?_ rfl ?_
             · (try rw [← HX.out])
               simp_all [results, Try.f17, go_sem, stV, zeroS]
             · (repeat with_reducible refine below_set ?_ (by omega)); with_reducible exact (HI).out.below)

set_option maxHeartbeats 1000000 in
theorem refApply_35 (s v t : Int) (d : Bool) (w : World) (hk : validB 3 s v = true) :
    Calls Try.prog 17 #[.agg #[.int .i64 3, .int .i64 s, .int .i64 v, .bool d], .agg #[.int .i64 5, .int .i64 t]] w (RetA (zeroS, 110) w) := by
  obtain ⟨h1, h4, h2, h3⟩ := valid_bounds hk
  have h15 := allOf_le h1 h4
  have hv := Lib.hid hk
  clear hk h15 h2 h3
  go_enter Try.func17, Try.ntmps17
  go_wp2_with ((go_at_call 18; refine (refValid_any _ _ _ _ _).mono ?_; rintro e w1 ⟨rfl, hb1⟩; have HI := Lib.hid (enter3_call hb1); (obtain ⟨c0, c1, c2, c3⟩ := (HI).out.a
                                                                                                                                       obtain ⟨c4, c5⟩ := (HI).out.e
                                                                                                                                       obtain ⟨c6, c7, c8, c9⟩ := (HI).out.r
                                                                                                                                       have cf0 := (HI).out.fa 0
                                                                                                                                       have cf2 := (HI).out.fa 2
                                                                                                                                       have cf3 := (HI).out.fa 3
                                                                                                                                       have cg0 := (HI).out.fr 0
                                                                                                                                       have cg1 := (HI).out.fr 1
                                                                                                                                       have cg2 := (HI).out.fr 2
                                                                                                                                       have cg3 := (HI).out.fr 3); have hval := hv.out; clear hb1))
  all_goals (refine ret17 ?_ rfl ?_
             · (try rw [← HX.out])
               simp_all [results, Try.f17, go_sem, stV, zeroS]
             · (repeat with_reducible refine below_set ?_ (by omega)); with_reducible exact (HI).out.below)

set_option maxHeartbeats 1000000 in
theorem refApply_36 (s v t : Int) (d : Bool) (w : World) (hk : validB 3 s v = true) :
    Calls Try.prog 17 #[.agg #[.int .i64 3, .int .i64 s, .int .i64 v, .bool d], .agg #[.int .i64 6, .int .i64 t]] w (RetA (zeroS, 110) w) := by
  obtain ⟨h1, h4, h2, h3⟩ := valid_bounds hk
  have h15 := allOf_le h1 h4
  have hv := Lib.hid hk
  clear hk h15 h2 h3
  go_enter Try.func17, Try.ntmps17
  go_wp2_with ((go_at_call 18; refine (refValid_any _ _ _ _ _).mono ?_; rintro e w1 ⟨rfl, hb1⟩; have HI := Lib.hid (enter3_call hb1); (obtain ⟨c0, c1, c2, c3⟩ := (HI).out.a
                                                                                                                                       obtain ⟨c4, c5⟩ := (HI).out.e
                                                                                                                                       obtain ⟨c6, c7, c8, c9⟩ := (HI).out.r
                                                                                                                                       have cf0 := (HI).out.fa 0
                                                                                                                                       have cf2 := (HI).out.fa 2
                                                                                                                                       have cf3 := (HI).out.fa 3
                                                                                                                                       have cg0 := (HI).out.fr 0
                                                                                                                                       have cg1 := (HI).out.fr 1
                                                                                                                                       have cg2 := (HI).out.fr 2
                                                                                                                                       have cg3 := (HI).out.fr 3); have hval := hv.out; clear hb1))
  all_goals (refine ret17 ?_ rfl ?_
             · (try rw [← HX.out])
               simp_all [results, Try.f17, go_sem, stV, zeroS]
             · (repeat with_reducible refine below_set ?_ (by omega)); with_reducible exact (HI).out.below)

set_option maxHeartbeats 1000000 in
theorem refApply_37 (s v t : Int) (d : Bool) (w : World) (hk : validB 3 s v = true) :
    Calls Try.prog 17 #[.agg #[.int .i64 3, .int .i64 s, .int .i64 v, .bool d], .agg #[.int .i64 7, .int .i64 t]] w (RetA ((4, s, v, d), 0) w) := by
  obtain ⟨h1, h4, h2, h3⟩ := valid_bounds hk
  have h15 := allOf_le h1 h4
  have hv := Lib.hid hk
  clear hk h15 h2 h3
  go_enter Try.func17, Try.ntmps17
  go_wp2_with ((go_at_call 18; refine (refValid_any _ _ _ _ _).mono ?_; rintro e w1 ⟨rfl, hb1⟩; have HI := Lib.hid (enter3_call hb1); (obtain ⟨c0, c1, c2, c3⟩ := (HI).out.a
                                                                                                                                       obtain ⟨c4, c5⟩ := (HI).out.e
                                                                                                                                       obtain ⟨c6, c7, c8, c9⟩ := (HI).out.r
                                                                                                                                       have cf0 := (HI).out.fa 0
                                                                                                                                       have cf2 := (HI).out.fa 2
                                                                                                                                       have cf3 := (HI).out.fa 3
                                                                                                                                       have cg0 := (HI).out.fr 0
                                                                                                                                       have cg1 := (HI).out.fr 1
                                                                                                                                       have cg2 := (HI).out.fr 2
                                                                                                                                       have cg3 := (HI).out.fr 3); have hval := hv.out; clear hb1))
  all_goals (refine ret17 ?_ rfl ?_
             · (try rw [← HX.out])
               simp_all [results, Try.f17, go_sem, stV, zeroS]
             · (repeat with_reducible refine below_set ?_ (by omega)); with_reducible exact (HI).out.below)

set_option maxHeartbeats 1000000 in
theorem refApply_38 (s v t : Int) (d : Bool) (w : World) (hk : validB 3 s v = true) :
    Calls Try.prog 17 #[.agg #[.int .i64 3, .int .i64 s, .int .i64 v, .bool d], .agg #[.int .i64 8, .int .i64 t]] w (RetA (zeroS, 110) w) := by
  obtain ⟨h1, h4, h2, h3⟩ := valid_bounds hk
  have h15 := allOf_le h1 h4
  have hv := Lib.hid hk
  clear hk h15 h2 h3
  go_enter Try.func17, Try.ntmps17
  go_wp2_with ((go_at_call 18; refine (refValid_any _ _ _ _ _).mono ?_; rintro e w1 ⟨rfl, hb1⟩; have HI := Lib.hid (enter3_call hb1); (obtain ⟨c0, c1, c2, c3⟩ := (HI).out.a
                                                                                                                                       obtain ⟨c4, c5⟩ := (HI).out.e
                                                                                                                                       obtain ⟨c6, c7, c8, c9⟩ := (HI).out.r
                                                                                                                                       have cf0 := (HI).out.fa 0
                                                                                                                                       have cf2 := (HI).out.fa 2
                                                                                                                                       have cf3 := (HI).out.fa 3
                                                                                                                                       have cg0 := (HI).out.fr 0
                                                                                                                                       have cg1 := (HI).out.fr 1
                                                                                                                                       have cg2 := (HI).out.fr 2
                                                                                                                                       have cg3 := (HI).out.fr 3); have hval := hv.out; clear hb1))
  all_goals (refine ret17 ?_ rfl ?_
             · (try rw [← HX.out])
               simp_all [results, Try.f17, go_sem, stV, zeroS]
             · (repeat with_reducible refine below_set ?_ (by omega)); with_reducible exact (HI).out.below)

end Go.Proofs.Ytpkgcklnknbbcaa
