/- The walk of the reference's Apply. -/
import Derived.Test.YtpkgcklnknbbcaaR0
set_option linter.unusedVariables false
set_option linter.unusedSimpArgs false
set_option linter.unnecessarySimpa false
namespace Go.Proofs.Ytpkgcklnknbbcaa
open Go.RowKit

set_option maxHeartbeats 1000000 in
theorem refApply_11 (s v t : Int) (d : Bool) (w : World) (hk : validB 1 s v = true) (h0 : 0 ≤ t) (ht : t < s) :
    Calls Try.prog 17 #[.agg #[.int .i64 1, .int .i64 s, .int .i64 v, .bool d], .agg #[.int .i64 1, .int .i64 t]] w (RetA ((if orBit v t = allOf s then 2 else 1, s, orBit v t, d), 0) w) := by
  obtain ⟨h1, h4, h2, h3⟩ := valid_bounds hk
  have h15 := allOf_le h1 h4
  have ht64 : t ≤ 64 := by omega
  have hlt : decide (t < 0) = false := by simpa using h0
  have hge : decide (s ≤ t) = false := by simpa using ht
  have hor := or_fact hk h0 ht
  rw [← wrap64_i64] at hor
  generalize orBit v t = o at *
  generalize hx : (((if o = allOf s then 2 else 1, s, o, d), 0) : St × Int) = x
  have HX := Lib.hid hx
  clear hx
  have hv := Lib.hid hk
  clear hk h15 h2 h3
  go_enter Try.func17, Try.ntmps17
  go_wp2_with ((go_at_call 18; refine (refValid_any _ _ _ _ _).mono ?_; rintro e w1 ⟨rfl, hb1⟩; have HI := Lib.hid (enter3_call hb1); (obtain ⟨c0, c1, c2, c3⟩ := (HI).out.a
                                                                                                                                       obtain ⟨c4, c5⟩ := (HI).out.e
                                                                                                                                       obtain ⟨c6, c7, c8, c9⟩ := (HI).out.r
                                                                                                                                       have cf0 := (HI).out.fa 0
                                                                                                                                       have cf2 := (HI).out.fa 2
                                                                                                                                       have cf3 := (HI).out.fa 3
                                                                                                                                       have cg0 := (HI).out.fr 0
                                                                                                                                       have cg1 := (HI).out.fr 1
                                                                                                                                       have cg2 := (HI).out.fr 2
                                                                                                                                       have cg3 := (HI).out.fr 3); have hval := hv.out; clear hb1))
  have HI3 := Lib.hid (HI.out.setV o)
  generalize w1.setCell ⟨w.heap.size, 2, none⟩ (.int .i64 o) = w3 at *
  clear c0 c1 c2 c3 c4 c5 c6 c7 c8 c9 cf0 cf2 cf3 cg0 cg1 cg2 cg3 HI
  refine wp_region_grow (Up4 w3 w.heap.size 1 s o d) (by kernel_rfl) (by kernel_rfl) ⟨(Below.refl _ _).drew, HI3.out.a⟩ ?_
  repeat first
           | (apply gRow_plain
              · exact rfl
              · intro wg hg
                have hc := Up4.facts wg hg
                go_simp
                first
                  | exact rfl
                  | exact ⟨hg, rfl⟩
                  | ((refine (refAll_any _ _ h1 h4).mono ?_; rintro e w1 ⟨rfl, rfl⟩; exact ⟨rfl, hg⟩))
              intro K hK
              go_simp
              refine hK _ ?_
              clear hK K)
           | (apply gRow_step
              · go_simp; done
              · intro wg hg
                have hc := Up4.facts wg hg
                go_simp
                first
                  | exact rfl
                  | exact ⟨hg, rfl⟩
                  | ((refine (refAll_any _ _ h1 h4).mono ?_; rintro e w1 ⟨rfl, rfl⟩; exact ⟨rfl, hg⟩))
              intro K hK
              go_simp
              refine hK _ ?_
              clear hK K)
           | (apply gRow_not
              · go_simp; done
              intro K hK
              go_simp
              refine hK _ ?_
              clear hK K)
  refine gRow_nil ?_
  rintro w4 ⟨HB2, hA2⟩
  have HI4 := Lib.hid (HI3.out.call HB2)
  clear hA2 HB2 HI3
  (obtain ⟨c0, c1, c2, c3⟩ := (HI4).out.a
   obtain ⟨c4, c5⟩ := (HI4).out.e
   obtain ⟨c6, c7, c8, c9⟩ := (HI4).out.r
   have cf0 := (HI4).out.fa 0
   have cf2 := (HI4).out.fa 2
   have cf3 := (HI4).out.fa 3
   have cg0 := (HI4).out.fr 0
   have cg1 := (HI4).out.fr 1
   have cg2 := (HI4).out.fr 2
   have cg3 := (HI4).out.fr 3)
  go_wp2_with fail
  all_goals (refine ret17 ?_ rfl ?_
             · (try rw [← HX.out])
               simp_all [results, Try.f17, go_sem, stV, zeroS]
             · (repeat with_reducible refine below_set ?_ (by omega)); with_reducible exact (HI4).out.below)

set_option maxHeartbeats 1000000 in
theorem refApply_12 (s v t : Int) (d : Bool) (w : World) (hk : validB 1 s v = true) (h0 : 0 ≤ t) (ht : t < s) :
    Calls Try.prog 17 #[.agg #[.int .i64 1, .int .i64 s, .int .i64 v, .bool d], .agg #[.int .i64 2, .int .i64 t]] w (RetA ((1, s, clearBit v t, d), 0) w) := by
  obtain ⟨h1, h4, h2, h3⟩ := valid_bounds hk
  have h15 := allOf_le h1 h4
  have ht64 : t ≤ 64 := by omega
  have hlt : decide (t < 0) = false := by simpa using h0
  have hge : decide (s ≤ t) = false := by simpa using ht
  have hbit := bit_fact hk h0 ht
  have hpow := pow_fact hk h0 ht
  have hsub := sub_fact hk h0 ht
  generalize hx : (((1, s, clearBit v t, d), 0) : St × Int) = x
  unfold clearBit at hx
  have HX := Lib.hid hx
  clear hx
  have hv := Lib.hid hk
  clear hk h15 h2 h3
  go_enter Try.func17, Try.ntmps17
  go_wp2_with ((go_at_call 18; refine (refValid_any _ _ _ _ _).mono ?_; rintro e w1 ⟨rfl, hb1⟩; have HI := Lib.hid (enter3_call hb1); (obtain ⟨c0, c1, c2, c3⟩ := (HI).out.a
                                                                                                                                       obtain ⟨c4, c5⟩ := (HI).out.e
                                                                                                                                       obtain ⟨c6, c7, c8, c9⟩ := (HI).out.r
                                                                                                                                       have cf0 := (HI).out.fa 0
                                                                                                                                       have cf2 := (HI).out.fa 2
                                                                                                                                       have cf3 := (HI).out.fa 3
                                                                                                                                       have cg0 := (HI).out.fr 0
                                                                                                                                       have cg1 := (HI).out.fr 1
                                                                                                                                       have cg2 := (HI).out.fr 2
                                                                                                                                       have cg3 := (HI).out.fr 3); have hval := hv.out; clear hb1))
  all_goals (refine ret17 ?_ rfl ?_
             · (try rw [← HX.out])
               simp_all [results, Try.f17, go_sem, stV, zeroS]
             · (repeat with_reducible refine below_set ?_ (by omega)); with_reducible exact (HI).out.below)

set_option maxHeartbeats 1000000 in
theorem refApply_13 (s v t : Int) (d : Bool) (w : World) (hk : validB 1 s v = true) :
    Calls Try.prog 17 #[.agg #[.int .i64 1, .int .i64 s, .int .i64 v, .bool d], .agg #[.int .i64 3, .int .i64 t]] w (RetA ((1, s, v, false), 0) w) := by
  obtain ⟨h1, h4, h2, h3⟩ := valid_bounds hk
  have h15 := allOf_le h1 h4
  have hv := Lib.hid hk
  clear hk h15 h2 h3
  go_enter Try.func17, Try.ntmps17
  go_wp2_with ((go_at_call 18; refine (refValid_any _ _ _ _ _).mono ?_; rintro e w1 ⟨rfl, hb1⟩; have HI := Lib.hid (enter3_call hb1); (obtain ⟨c0, c1, c2, c3⟩ := (HI).out.a
                                                                                                                                       obtain ⟨c4, c5⟩ := (HI).out.e
                                                                                                                                       obtain ⟨c6, c7, c8, c9⟩ := (HI).out.r
                                                                                                                                       have cf0 := (HI).out.fa 0
                                                                                                                                       have cf2 := (HI).out.fa 2
                                                                                                                                       have cf3 := (HI).out.fa 3
                                                                                                                                       have cg0 := (HI).out.fr 0
                                                                                                                                       have cg1 := (HI).out.fr 1
                                                                                                                                       have cg2 := (HI).out.fr 2
                                                                                                                                       have cg3 := (HI).out.fr 3); have hval := hv.out; clear hb1))
  all_goals (refine ret17 ?_ rfl ?_
             · (try rw [← HX.out])
               simp_all [results, Try.f17, go_sem, stV, zeroS]
             · (repeat with_reducible refine below_set ?_ (by omega)); with_reducible exact (HI).out.below)

set_option maxHeartbeats 1000000 in
theorem refApply_14 (s v t : Int) (d : Bool) (w : World) (hk : validB 1 s v = true) :
    Calls Try.prog 17 #[.agg #[.int .i64 1, .int .i64 s, .int .i64 v, .bool d], .agg #[.int .i64 4, .int .i64 t]] w (RetA ((1, s, v, true), 0) w) := by
  obtain ⟨h1, h4, h2, h3⟩ := valid_bounds hk
  have h15 := allOf_le h1 h4
  have hv := Lib.hid hk
  clear hk h15 h2 h3
  go_enter Try.func17, Try.ntmps17
  go_wp2_with ((go_at_call 18; refine (refValid_any _ _ _ _ _).mono ?_; rintro e w1 ⟨rfl, hb1⟩; have HI := Lib.hid (enter3_call hb1); (obtain ⟨c0, c1, c2, c3⟩ := (HI).out.a
                                                                                                                                       obtain ⟨c4, c5⟩ := (HI).out.e
                                                                                                                                       obtain ⟨c6, c7, c8, c9⟩ := (HI).out.r
                                                                                                                                       have cf0 := (HI).out.fa 0
                                                                                                                                       have cf2 := (HI).out.fa 2
                                                                                                                                       have cf3 := (HI).out.fa 3
                                                                                                                                       have cg0 := (HI).out.fr 0
                                                                                                                                       have cg1 := (HI).out.fr 1
                                                                                                                                       have cg2 := (HI).out.fr 2
                                                                                                                                       have cg3 := (HI).out.fr 3); have hval := hv.out; clear hb1))
  all_goals (refine ret17 ?_ rfl ?_
             · (try rw [← HX.out])
               simp_all [results, Try.f17, go_sem, stV, zeroS]
             · (repeat with_reducible refine below_set ?_ (by omega)); with_reducible exact (HI).out.below)

set_option maxHeartbeats 1000000 in
theorem refApply_15 (s v t : Int) (d : Bool) (w : World) (hk : validB 1 s v = true) :
    Calls Try.prog 17 #[.agg #[.int .i64 1, .int .i64 s, .int .i64 v, .bool d], .agg #[.int .i64 5, .int .i64 t]] w (RetA ((5, s, v, d), 0) w) := by
  obtain ⟨h1, h4, h2, h3⟩ := valid_bounds hk
  have h15 := allOf_le h1 h4
  have hv := Lib.hid hk
  clear hk h15 h2 h3
  go_enter Try.func17, Try.ntmps17
  go_wp2_with ((go_at_call 18; refine (refValid_any _ _ _ _ _).mono ?_; rintro e w1 ⟨rfl, hb1⟩; have HI := Lib.hid (enter3_call hb1); (obtain ⟨c0, c1, c2, c3⟩ := (HI).out.a
                                                                                                                                       obtain ⟨c4, c5⟩ := (HI).out.e
                                                                                                                                       obtain ⟨c6, c7, c8, c9⟩ := (HI).out.r
                                                                                                                                       have cf0 := (HI).out.fa 0
                                                                                                                                       have cf2 := (HI).out.fa 2
                                                                                                                                       have cf3 := (HI).out.fa 3
                                                                                                                                       have cg0 := (HI).out.fr 0
                                                                                                                                       have cg1 := (HI).out.fr 1
                                                                                                                                       have cg2 := (HI).out.fr 2
                                                                                                                                       have cg3 := (HI).out.fr 3); have hval := hv.out; clear hb1))
  all_goals (refine ret17 ?_ rfl ?_
             · (try rw [← HX.out])
               simp_all [results, Try.f17, go_sem, stV, zeroS]
             · (repeat with_reducible refine below_set ?_ (by omega)); with_reducible exact (HI).out.below)

set_option maxHeartbeats 1000000 in
theorem refApply_16 (s v t : Int) (d : Bool) (w : World) (hk : validB 1 s v = true) :
    Calls Try.prog 17 #[.agg #[.int .i64 1, .int .i64 s, .int .i64 v, .bool d], .agg #[.int .i64 6, .int .i64 t]] w (RetA (zeroS, 110) w) := by
  obtain ⟨h1, h4, h2, h3⟩ := valid_bounds hk
  have h15 := allOf_le h1 h4
  have hv := Lib.hid hk
  clear hk h15 h2 h3
  go_enter Try.func17, Try.ntmps17
  go_wp2_with ((go_at_call 18; refine (refValid_any _ _ _ _ _).mono ?_; rintro e w1 ⟨rfl, hb1⟩; have HI := Lib.hid (enter3_call hb1); (obtain ⟨c0, c1, c2, c3⟩ := (HI).out.a
                                                                                                                                       obtain ⟨c4, c5⟩ := (HI).out.e
                                                                                                                                       obtain ⟨c6, c7, c8, c9⟩ := (HI).out.r
                                                                                                                                       have cf0 := (HI).out.fa 0
                                                                                                                                       have cf2 := (HI).out.fa 2
                                                                                                                                       have cf3 := (HI).out.fa 3
                                                                                                                                       have cg0 := (HI).out.fr 0
                                                                                                                                       have cg1 := (HI).out.fr 1
                                                                                                                                       have cg2 := (HI).out.fr 2
                                                                                                                                       have cg3 := (HI).out.fr 3); have hval := hv.out; clear hb1))
  all_goals (refine ret17 ?_ rfl ?_
             · (try rw [← HX.out])
               simp_all [results, Try.f17, go_sem, stV, zeroS]
             · (repeat with_reducible refine below_set ?_ (by omega)); with_reducible exact (HI).out.below)

set_option maxHeartbeats 1000000 in
theorem refApply_17 (s v t : Int) (d : Bool) (w : World) (hk : validB 1 s v = true) :
    Calls Try.prog 17 #[.agg #[.int .i64 1, .int .i64 s, .int .i64 v, .bool d], .agg #[.int .i64 7, .int .i64 t]] w (RetA (zeroS, 110) w) := by
  obtain ⟨h1, h4, h2, h3⟩ := valid_bounds hk
  have h15 := allOf_le h1 h4
  have hv := Lib.hid hk
  clear hk h15 h2 h3
  go_enter Try.func17, Try.ntmps17
  go_wp2_with ((go_at_call 18; refine (refValid_any _ _ _ _ _).mono ?_; rintro e w1 ⟨rfl, hb1⟩; have HI := Lib.hid (enter3_call hb1); (obtain ⟨c0, c1, c2, c3⟩ := (HI).out.a
                                                                                                                                       obtain ⟨c4, c5⟩ := (HI).out.e
                                                                                                                                       obtain ⟨c6, c7, c8, c9⟩ := (HI).out.r
                                                                                                                                       have cf0 := (HI).out.fa 0
                                                                                                                                       have cf2 := (HI).out.fa 2
                                                                                                                                       have cf3 := (HI).out.fa 3
                                                                                                                                       have cg0 := (HI).out.fr 0
                                                                                                                                       have cg1 := (HI).out.fr 1
                                                                                                                                       have cg2 := (HI).out.fr 2
                                                                                                                                       have cg3 := (HI).out.fr 3); have hval := hv.out; clear hb1))
  all_goals (refine ret17 ?_ rfl ?_
             · (try rw [← HX.out])
               simp_all [results, Try.f17, go_sem, stV, zeroS]
             · (repeat with_reducible refine below_set ?_ (by omega)); with_reducible exact (HI).out.below)

set_option maxHeartbeats 1000000 in
theorem refApply_18 (s v t : Int) (d : Bool) (w : World) (hk : validB 1 s v = true) :
    Calls Try.prog 17 #[.agg #[.int .i64 1, .int .i64 s, .int .i64 v, .bool d], .agg #[.int .i64 8, .int .i64 t]] w (RetA ((5, s, v, d), 0) w) := by
  obtain ⟨h1, h4, h2, h3⟩ := valid_bounds hk
  have h15 := allOf_le h1 h4
  have hv := Lib.hid hk
  clear hk h15 h2 h3
  go_enter Try.func17, Try.ntmps17
  go_wp2_with ((go_at_call 18; refine (refValid_any _ _ _ _ _).mono ?_; rintro e w1 ⟨rfl, hb1⟩; have HI := Lib.hid (enter3_call hb1); (obtain ⟨c0, c1, c2, c3⟩ := (HI).out.a
                                                                                                                                       obtain ⟨c4, c5⟩ := (HI).out.e
                                                                                                                                       obtain ⟨c6, c7, c8, c9⟩ := (HI).out.r
                                                                                                                                       have cf0 := (HI).out.fa 0
                                                                                                                                       have cf2 := (HI).out.fa 2
                                                                                                                                       have cf3 := (HI).out.fa 3
                                                                                                                                       have cg0 := (HI).out.fr 0
                                                                                                                                       have cg1 := (HI).out.fr 1
                                                                                                                                       have cg2 := (HI).out.fr 2
                                                                                                                                       have cg3 := (HI).out.fr 3); have hval := hv.out; clear hb1))
  all_goals (refine ret17 ?_ rfl ?_
             · (try rw [← HX.out])
               simp_all [results, Try.f17, go_sem, stV, zeroS]
             · (repeat with_reducible refine below_set ?_ (by omega)); with_reducible exact (HI).out.below)

end Go.Proofs.Ytpkgcklnknbbcaa
