/- The walk of the reference's Next. -/
import Derived.Test.YtpkgcklnknbbcaaN2
set_option linter.unusedVariables false
set_option linter.unusedSimpArgs false
set_option linter.unnecessarySimpa false
namespace Go.Proofs.Ytpkgcklnknbbcaa
open Go.RowKit

set_option maxHeartbeats 1000000 in
theorem refNext_bad (p s v : Int) (d : Bool) (w : World) (hk : validB p s v = false) :
    Calls Try.prog 20 #[.agg #[.int .i64 p, .int .i64 s, .int .i64 v, .bool d]] w (RetN (0, 0) w) := by
  have hv := Lib.hid hk
  clear hk
  go_enter Try.func20, Try.ntmps20
  go_wp2_with ((go_at_call 18; refine (refValid_any _ _ _ _ _).mono ?_; rintro e w1 ⟨rfl, hb1⟩; have HI := Lib.hid (enter2_call hb1); (obtain ⟨c0, c1, c2, c3⟩ := (HI).out.a
                                                                                                                                       obtain ⟨c4, c5⟩ := (HI).out.r
                                                                                                                                       have cg0 := (HI).out.fr 0
                                                                                                                                       have cg1 := (HI).out.fr 1
                                                                                                                                       have hz1 := (HI).out.size
                                                                                                                                       have hz0 : w.heap.size < w1.heap.size := Nat.lt_of_succ_lt hz1); have hval := hv.out; clear hb1))
  (refine retN ?_ rfl ?_
   · simp [results, Try.f19, Try.f20, go_sem, c4, c5, hz0, hz1]
   · (repeat first | with_reducible refine below_set ?_ (by omega) | with_reducible refine below_new ?_); with_reducible exact (HI).out.below)

set_option maxHeartbeats 1000000 in
theorem refNext_2 (s v : Int) (d : Bool) (w : World) (hk : validB 2 s v = true) :
    Calls Try.prog 20 #[.agg #[.int .i64 2, .int .i64 s, .int .i64 v, .bool d]] w (RetN (3, 0) w) := by
  have hv := Lib.hid hk
  clear hk
  go_enter Try.func20, Try.ntmps20
  go_wp2_with ((go_at_call 18; refine (refValid_any _ _ _ _ _).mono ?_; rintro e w1 ⟨rfl, hb1⟩; have HI := Lib.hid (enter2_call hb1); (obtain ⟨c0, c1, c2, c3⟩ := (HI).out.a
                                                                                                                                       obtain ⟨c4, c5⟩ := (HI).out.r
                                                                                                                                       have cg0 := (HI).out.fr 0
                                                                                                                                       have cg1 := (HI).out.fr 1
                                                                                                                                       have hz1 := (HI).out.size
                                                                                                                                       have hz0 : w.heap.size < w1.heap.size := Nat.lt_of_succ_lt hz1); have hval := hv.out; clear hb1))
  (refine retN ?_ rfl ?_
   · simp [results, Try.f19, Try.f20, go_sem, c4, c5, hz0, hz1]
   · (repeat first | with_reducible refine below_set ?_ (by omega) | with_reducible refine below_new ?_); with_reducible exact (HI).out.below)

set_option maxHeartbeats 1000000 in
theorem refNext_3 (s v : Int) (d : Bool) (w : World) (hk : validB 3 s v = true) :
    Calls Try.prog 20 #[.agg #[.int .i64 3, .int .i64 s, .int .i64 v, .bool d]] w (RetN (4, 0) w) := by
  have hv := Lib.hid hk
  clear hk
  go_enter Try.func20, Try.ntmps20
  go_wp2_with ((go_at_call 18; refine (refValid_any _ _ _ _ _).mono ?_; rintro e w1 ⟨rfl, hb1⟩; have HI := Lib.hid (enter2_call hb1); (obtain ⟨c0, c1, c2, c3⟩ := (HI).out.a
                                                                                                                                       obtain ⟨c4, c5⟩ := (HI).out.r
                                                                                                                                       have cg0 := (HI).out.fr 0
                                                                                                                                       have cg1 := (HI).out.fr 1
                                                                                                                                       have hz1 := (HI).out.size
                                                                                                                                       have hz0 : w.heap.size < w1.heap.size := Nat.lt_of_succ_lt hz1); have hval := hv.out; clear hb1))
  (refine retN ?_ rfl ?_
   · simp [results, Try.f19, Try.f20, go_sem, c4, c5, hz0, hz1]
   · (repeat first | with_reducible refine below_set ?_ (by omega) | with_reducible refine below_new ?_); with_reducible exact (HI).out.below)

set_option maxHeartbeats 1000000 in
theorem refNext_4 (s v : Int) (d : Bool) (w : World) (hk : validB 4 s v = true) :
    Calls Try.prog 20 #[.agg #[.int .i64 4, .int .i64 s, .int .i64 v, .bool d]] w (RetN (0, 0) w) := by
  have hv := Lib.hid hk
  clear hk
  go_enter Try.func20, Try.ntmps20
  go_wp2_with ((go_at_call 18; refine (refValid_any _ _ _ _ _).mono ?_; rintro e w1 ⟨rfl, hb1⟩; have HI := Lib.hid (enter2_call hb1); (obtain ⟨c0, c1, c2, c3⟩ := (HI).out.a
                                                                                                                                       obtain ⟨c4, c5⟩ := (HI).out.r
                                                                                                                                       have cg0 := (HI).out.fr 0
                                                                                                                                       have cg1 := (HI).out.fr 1
                                                                                                                                       have hz1 := (HI).out.size
                                                                                                                                       have hz0 : w.heap.size < w1.heap.size := Nat.lt_of_succ_lt hz1); have hval := hv.out; clear hb1))
  (refine retN ?_ rfl ?_
   · simp [results, Try.f19, Try.f20, go_sem, c4, c5, hz0, hz1]
   · (repeat first | with_reducible refine below_set ?_ (by omega) | with_reducible refine below_new ?_); with_reducible exact (HI).out.below)

set_option maxHeartbeats 1000000 in
theorem refNext_5 (s v : Int) (d : Bool) (w : World) (hk : validB 5 s v = true) :
    Calls Try.prog 20 #[.agg #[.int .i64 5, .int .i64 s, .int .i64 v, .bool d]] w (RetN (0, 0) w) := by
  have hv := Lib.hid hk
  clear hk
  go_enter Try.func20, Try.ntmps20
  go_wp2_with ((go_at_call 18; refine (refValid_any _ _ _ _ _).mono ?_; rintro e w1 ⟨rfl, hb1⟩; have HI := Lib.hid (enter2_call hb1); (obtain ⟨c0, c1, c2, c3⟩ := (HI).out.a
                                                                                                                                       obtain ⟨c4, c5⟩ := (HI).out.r
                                                                                                                                       have cg0 := (HI).out.fr 0
                                                                                                                                       have cg1 := (HI).out.fr 1
                                                                                                                                       have hz1 := (HI).out.size
                                                                                                                                       have hz0 : w.heap.size < w1.heap.size := Nat.lt_of_succ_lt hz1); have hval := hv.out; clear hb1))
  (refine retN ?_ rfl ?_
   · simp [results, Try.f19, Try.f20, go_sem, c4, c5, hz0, hz1]
   · (repeat first | with_reducible refine below_set ?_ (by omega) | with_reducible refine below_new ?_); with_reducible exact (HI).out.below)

set_option maxHeartbeats 4000000 in
theorem refNext_1 (s v : Int) (d : Bool) (w : World) (hk : validB 1 s v = true) :
    Calls Try.prog 20 #[.agg #[.int .i64 1, .int .i64 s, .int .i64 v, .bool d]] w (RetN (if d then 1 else 2, firstClear v) w) := by
  have hc := fc_cases hk
  have hv := Lib.hid hk
  clear hk
  generalize firstClear v = fc at *
  rcases hc with ⟨g0, rfl⟩ | ⟨g0, g1, rfl⟩ | ⟨g0, g1, g2, rfl⟩ | ⟨g0, g1, g2, g3, rfl⟩
  all_goals
    cases d
    all_goals
      go_enter Try.func20, Try.ntmps20
      go_wp2_with ((go_at_call 18; refine (refValid_any _ _ _ _ _).mono ?_; rintro e w1 ⟨rfl, hb1⟩; have HI := Lib.hid (enter2_call hb1); (obtain ⟨c0, c1, c2, c3⟩ := (HI).out.a
                                                                                                                                           obtain ⟨c4, c5⟩ := (HI).out.r
                                                                                                                                           have cg0 := (HI).out.fr 0
                                                                                                                                           have cg1 := (HI).out.fr 1
                                                                                                                                           have hz1 := (HI).out.size
                                                                                                                                           have hz0 : w.heap.size < w1.heap.size := Nat.lt_of_succ_lt hz1); have hval := hv.out; clear hb1))
      refine wp_loop_rounds 4 ?_
      repeat (rw [rounds_succ]; go_wp2_with fail)
      (refine retN ?_ rfl ?_
       · simp [results, Try.f19, Try.f20, go_sem, c4, c5, hz0, hz1]
       · (repeat first | with_reducible refine below_set ?_ (by omega) | with_reducible refine below_new ?_); with_reducible exact (HI).out.below)

theorem refNext_any (p s v : Int) (d : Bool) (w : World) :
    Calls Try.prog 20 #[.agg #[.int .i64 p, .int .i64 s, .int .i64 v, .bool d]] w (RetN (nextF p s v d) w) := by
  unfold nextF
  cases hk : validB p s v with
  | false => exact refNext_bad p s v d w hk
  | true =>
    have hp := valid_phase hk
    have hp' : p = 1 ∨ p = 2 ∨ p = 3 ∨ p = 4 ∨ p = 5 := by omega
    rcases hp' with rfl | rfl | rfl | rfl | rfl
    · exact refNext_1 s v d w hk
    · exact refNext_2 s v d w hk
    · exact refNext_3 s v d w hk
    · exact refNext_4 s v d w hk
    · exact refNext_5 s v d w hk

end Go.Proofs.Ytpkgcklnknbbcaa
