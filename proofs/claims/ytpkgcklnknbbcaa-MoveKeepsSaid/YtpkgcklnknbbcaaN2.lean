/- The walks of Next. -/
import Derived.Test.YtpkgcklnknbbcaaM8
import Derived.Outline
set_option linter.unusedVariables false
set_option linter.unusedSimpArgs false
set_option linter.unnecessarySimpa false
namespace Go.Proofs.Ytpkgcklnknbbcaa
open Go.RowKit

def firstClear (v : Int) : Int := if hasBit v 0 = false then 0 else if hasBit v 1 = false then 1 else if hasBit v 2 = false then 2 else 3
def nextF (p s v : Int) (d : Bool) : Int × Int :=
  if validB p s v = false then (0, 0) else if p = 1 then (if d then 1 else 2, firstClear v) else if p = 2 then (3, 0) else if p = 3 then (4, 0) else (0, 0)
def RetN (x : Int × Int) (w : World) (e : Ending) (w' : World) : Prop := e = .returned (.agg #[.int .i64 x.1, .int .i64 x.2]) ∧ Below w.heap.size w w'

/-- what the walk of Next knows behind the call of Valid -/
structure In2 (w w' : World) (p s v : Int) (d : Bool) : Prop where
  a : At4 w' w.heap.size p s v d
  r : At2 w' (w.heap.size + 1) 0 0
  fr : Thaw w' (w.heap.size + 1)
  size : w.heap.size + 1 < w'.heap.size
  below : Below w.heap.size w w'

theorem enter2_call {w w' : World} {p s v : Int} {d : Bool}
    (h : Below ((w.alloc (.cells #[.int .i64 p, .int .i64 s, .int .i64 v, .bool d] 23)).alloc (.cells #[.int .i64 0, .int .i64 0] 36)).heap.size
      ((w.alloc (.cells #[.int .i64 p, .int .i64 s, .int .i64 v, .bool d] 23)).alloc (.cells #[.int .i64 0, .int .i64 0] 36)) w') :
    In2 w w' p s v d := by
  have a1 := at4_new w p s v d
  have b1 : Below w.heap.size w (w.alloc (.cells #[.int .i64 p, .int .i64 s, .int .i64 v, .bool d] 23)) := below_of_allocs _
  have z1 : (w.alloc (.cells #[.int .i64 p, .int .i64 s, .int .i64 v, .bool d] 23)).heap.size = w.heap.size + 1 := by simp
  generalize w.alloc (.cells #[.int .i64 p, .int .i64 s, .int .i64 v, .bool d] 23) = w1 at *
  have a2 := at2_new w1 0 0 36
  have f2 := thaw_new w1 #[.int .i64 0, .int .i64 0] 36
  have b2 : Below w1.heap.size w1 (w1.alloc (.cells #[.int .i64 0, .int .i64 0] 36)) := below_of_allocs _
  have z2 : (w1.alloc (.cells #[.int .i64 0, .int .i64 0] 36)).heap.size = w1.heap.size + 1 := by simp
  generalize w1.alloc (.cells #[.int .i64 0, .int .i64 0] 36) = w2 at *
  rw [z1] at a2 f2
  exact ⟨(a1.below b2 (by omega)).below h (by omega), a2.below h (by omega), f2.below h (by omega), by have := h.size; omega, (b1.trans (b2.mono (by omega))).trans (h.mono (by omega))⟩


theorem below_new {a w : World} {o : Obj} (h : Below a.heap.size a w) : Below a.heap.size a (w.alloc o) := h.alloc h.size o

theorem retN {x : Int × Int} {w w' : World} {a : Act} {f : Func} (h : (results f a.tmps).run Try.prog w' = .ok (.agg #[.int .i64 x.1, .int .i64 x.2]) w') (hd : a.defers = []) (hb : Below w.heap.size w w') :
    bodyPost Try.prog f (RetN x w) .ret a w' := bodyPost_ret h hd ⟨rfl, hb⟩

theorem bits_small : ∀ (v : Fin 16), (bits .and .i64 (v.val : Int) 1 == 1) = hasBit (v.val : Int) 0 ∧ (bits .and .i64 ((v.val : Int) / 2) 1 == 1) = hasBit (v.val : Int) 1 ∧
    (bits .and .i64 ((v.val : Int) / 4) 1 == 1) = hasBit (v.val : Int) 2 ∧ (bits .and .i64 ((v.val : Int) / 8) 1 == 1) = hasBit (v.val : Int) 3 := by decide +kernel
theorem top_clear : ∀ (v : Fin 15), (hasBit (v.val : Int) 0 && hasBit (v.val : Int) 1 && hasBit (v.val : Int) 2 && hasBit (v.val : Int) 3) = false := by decide +kernel

theorem fc_cases {s v : Int} (h : validB 1 s v = true) :
    ((bits .and .i64 v 1 == 1) = false ∧ firstClear v = 0) ∨
    ((bits .and .i64 v 1 == 1) = true ∧ (bits .and .i64 (v / 2) 1 == 1) = false ∧ firstClear v = 1) ∨
    ((bits .and .i64 v 1 == 1) = true ∧ (bits .and .i64 (v / 2) 1 == 1) = true ∧ (bits .and .i64 (v / 4) 1 == 1) = false ∧ firstClear v = 2) ∨
    ((bits .and .i64 v 1 == 1) = true ∧ (bits .and .i64 (v / 2) 1 == 1) = true ∧ (bits .and .i64 (v / 4) 1 == 1) = true ∧ (bits .and .i64 (v / 8) 1 == 1) = false ∧ firstClear v = 3) := by
  obtain ⟨h1, h4, h2, h3⟩ := valid_bounds h
  have h15 := allOf_le h1 h4
  have hne : v < 15 := by
    rcases valid_phase h with h | h | h
    · have := h.2; omega
    · omega
    · omega
  obtain ⟨b0, b1, b2, b3⟩ := bits_small ⟨v.toNat, by omega⟩
  have tc := top_clear ⟨v.toNat, by omega⟩
  simp only [Int.toNat_of_nonneg h2] at b0 b1 b2 b3 tc
  rw [b0, b1, b2, b3]
  unfold firstClear
  generalize hasBit v 0 = x0 at *
  generalize hasBit v 1 = x1 at *
  generalize hasBit v 2 = x2 at *
  generalize hasBit v 3 = x3 at *
  clear b0 b1 b2 b3
  revert x0 x1 x2 x3
  decide




set_option maxHeartbeats 1000000 in
theorem next_bad (p s v : Int) (d : Bool) (w : World) (hv1 : -9223372036854775808 ≤ v) (hv2 : v ≤ 9223372036854775807) (hk : validB p s v = false) :
    Calls Try.prog 19 #[.agg #[.int .i64 p, .int .i64 s, .int .i64 v, .bool d]] w (RetN (0, 0) w) := by
  have hv := Lib.hid hk
  clear hk
  go_enter Try.func19, Try.ntmps19
  go_wp2_with ((go_at_call 14; refine (valid_any _ _ _ _ _ hv1 hv2).mono ?_; rintro e w1 ⟨rfl, hb1⟩; have HI := Lib.hid (enter2_call hb1); (obtain ⟨c0, c1, c2, c3⟩ := (HI).out.a
                                                                                                                                            obtain ⟨c4, c5⟩ := (HI).out.r
                                                                                                                                            have cg0 := (HI).out.fr 0
                                                                                                                                            have cg1 := (HI).out.fr 1
                                                                                                                                            have hz1 := (HI).out.size
                                                                                                                                            have hz0 : w.heap.size < w1.heap.size := Nat.lt_of_succ_lt hz1); have hval := hv.out; clear hb1))
  (refine retN ?_ rfl ?_
   · simp [results, Try.f19, Try.f20, go_sem, c4, c5, hz0, hz1]
   · (repeat first | with_reducible refine below_set ?_ (by omega) | with_reducible refine below_new ?_); with_reducible exact (HI).out.below)

set_option maxHeartbeats 1000000 in
theorem next_2 (s v : Int) (d : Bool) (w : World) (hv1 : -9223372036854775808 ≤ v) (hv2 : v ≤ 9223372036854775807) (hk : validB 2 s v = true) :
    Calls Try.prog 19 #[.agg #[.int .i64 2, .int .i64 s, .int .i64 v, .bool d]] w (RetN (3, 0) w) := by
  have hv := Lib.hid hk
  clear hk
  go_enter Try.func19, Try.ntmps19
  go_wp2_with ((go_at_call 14; refine (valid_any _ _ _ _ _ hv1 hv2).mono ?_; rintro e w1 ⟨rfl, hb1⟩; have HI := Lib.hid (enter2_call hb1); (obtain ⟨c0, c1, c2, c3⟩ := (HI).out.a
                                                                                                                                            obtain ⟨c4, c5⟩ := (HI).out.r
                                                                                                                                            have cg0 := (HI).out.fr 0
                                                                                                                                            have cg1 := (HI).out.fr 1
                                                                                                                                            have hz1 := (HI).out.size
                                                                                                                                            have hz0 : w.heap.size < w1.heap.size := Nat.lt_of_succ_lt hz1); have hval := hv.out; clear hb1))
  (refine retN ?_ rfl ?_
   · simp [results, Try.f19, Try.f20, go_sem, c4, c5, hz0, hz1]
   · (repeat first | with_reducible refine below_set ?_ (by omega) | with_reducible refine below_new ?_); with_reducible exact (HI).out.below)

set_option maxHeartbeats 1000000 in
theorem next_3 (s v : Int) (d : Bool) (w : World) (hv1 : -9223372036854775808 ≤ v) (hv2 : v ≤ 9223372036854775807) (hk : validB 3 s v = true) :
    Calls Try.prog 19 #[.agg #[.int .i64 3, .int .i64 s, .int .i64 v, .bool d]] w (RetN (4, 0) w) := by
  have hv := Lib.hid hk
  clear hk
  go_enter Try.func19, Try.ntmps19
  go_wp2_with ((go_at_call 14; refine (valid_any _ _ _ _ _ hv1 hv2).mono ?_; rintro e w1 ⟨rfl, hb1⟩; have HI := Lib.hid (enter2_call hb1); (obtain ⟨c0, c1, c2, c3⟩ := (HI).out.a
                                                                                                                                            obtain ⟨c4, c5⟩ := (HI).out.r
                                                                                                                                            have cg0 := (HI).out.fr 0
                                                                                                                                            have cg1 := (HI).out.fr 1
                                                                                                                                            have hz1 := (HI).out.size
                                                                                                                                            have hz0 : w.heap.size < w1.heap.size := Nat.lt_of_succ_lt hz1); have hval := hv.out; clear hb1))
  (refine retN ?_ rfl ?_
   · simp [results, Try.f19, Try.f20, go_sem, c4, c5, hz0, hz1]
   · (repeat first | with_reducible refine below_set ?_ (by omega) | with_reducible refine below_new ?_); with_reducible exact (HI).out.below)

set_option maxHeartbeats 1000000 in
theorem next_4 (s v : Int) (d : Bool) (w : World) (hv1 : -9223372036854775808 ≤ v) (hv2 : v ≤ 9223372036854775807) (hk : validB 4 s v = true) :
    Calls Try.prog 19 #[.agg #[.int .i64 4, .int .i64 s, .int .i64 v, .bool d]] w (RetN (0, 0) w) := by
  have hv := Lib.hid hk
  clear hk
  go_enter Try.func19, Try.ntmps19
  go_wp2_with ((go_at_call 14; refine (valid_any _ _ _ _ _ hv1 hv2).mono ?_; rintro e w1 ⟨rfl, hb1⟩; have HI := Lib.hid (enter2_call hb1); (obtain ⟨c0, c1, c2, c3⟩ := (HI).out.a
                                                                                                                                            obtain ⟨c4, c5⟩ := (HI).out.r
                                                                                                                                            have cg0 := (HI).out.fr 0
                                                                                                                                            have cg1 := (HI).out.fr 1
                                                                                                                                            have hz1 := (HI).out.size
                                                                                                                                            have hz0 : w.heap.size < w1.heap.size := Nat.lt_of_succ_lt hz1); have hval := hv.out; clear hb1))
  (refine retN ?_ rfl ?_
   · simp [results, Try.f19, Try.f20, go_sem, c4, c5, hz0, hz1]
   · (repeat first | with_reducible refine below_set ?_ (by omega) | with_reducible refine below_new ?_); with_reducible exact (HI).out.below)

set_option maxHeartbeats 1000000 in
theorem next_5 (s v : Int) (d : Bool) (w : World) (hv1 : -9223372036854775808 ≤ v) (hv2 : v ≤ 9223372036854775807) (hk : validB 5 s v = true) :
    Calls Try.prog 19 #[.agg #[.int .i64 5, .int .i64 s, .int .i64 v, .bool d]] w (RetN (0, 0) w) := by
  have hv := Lib.hid hk
  clear hk
  go_enter Try.func19, Try.ntmps19
  go_wp2_with ((go_at_call 14; refine (valid_any _ _ _ _ _ hv1 hv2).mono ?_; rintro e w1 ⟨rfl, hb1⟩; have HI := Lib.hid (enter2_call hb1); (obtain ⟨c0, c1, c2, c3⟩ := (HI).out.a
                                                                                                                                            obtain ⟨c4, c5⟩ := (HI).out.r
                                                                                                                                            have cg0 := (HI).out.fr 0
                                                                                                                                            have cg1 := (HI).out.fr 1
                                                                                                                                            have hz1 := (HI).out.size
                                                                                                                                            have hz0 : w.heap.size < w1.heap.size := Nat.lt_of_succ_lt hz1); have hval := hv.out; clear hb1))
  (refine retN ?_ rfl ?_
   · simp [results, Try.f19, Try.f20, go_sem, c4, c5, hz0, hz1]
   · (repeat first | with_reducible refine below_set ?_ (by omega) | with_reducible refine below_new ?_); with_reducible exact (HI).out.below)

set_option maxHeartbeats 4000000 in
theorem next_1 (s v : Int) (d : Bool) (w : World) (hv1 : -9223372036854775808 ≤ v) (hv2 : v ≤ 9223372036854775807) (hk : validB 1 s v = true) :
    Calls Try.prog 19 #[.agg #[.int .i64 1, .int .i64 s, .int .i64 v, .bool d]] w (RetN (if d then 1 else 2, firstClear v) w) := by
  have hc := fc_cases hk
  have hv := Lib.hid hk
  clear hk
  generalize firstClear v = fc at *
  rcases hc with ⟨g0, rfl⟩ | ⟨g0, g1, rfl⟩ | ⟨g0, g1, g2, rfl⟩ | ⟨g0, g1, g2, g3, rfl⟩
  all_goals
    cases d
    all_goals
      go_enter Try.func19, Try.ntmps19
      go_wp2_with ((go_at_call 14; refine (valid_any _ _ _ _ _ hv1 hv2).mono ?_; rintro e w1 ⟨rfl, hb1⟩; have HI := Lib.hid (enter2_call hb1); (obtain ⟨c0, c1, c2, c3⟩ := (HI).out.a
                                                                                                                                                obtain ⟨c4, c5⟩ := (HI).out.r
                                                                                                                                                have cg0 := (HI).out.fr 0
                                                                                                                                                have cg1 := (HI).out.fr 1
                                                                                                                                                have hz1 := (HI).out.size
                                                                                                                                                have hz0 : w.heap.size < w1.heap.size := Nat.lt_of_succ_lt hz1); have hval := hv.out; clear hb1))
      refine wp_loop_rounds 4 ?_
      repeat (rw [rounds_succ]; go_wp2_with fail)
      (refine retN ?_ rfl ?_
       · simp [results, Try.f19, Try.f20, go_sem, c4, c5, hz0, hz1]
       · (repeat first | with_reducible refine below_set ?_ (by omega) | with_reducible refine below_new ?_); with_reducible exact (HI).out.below)

theorem next_any (p s v : Int) (d : Bool) (w : World) (hv1 : -9223372036854775808 ≤ v) (hv2 : v ≤ 9223372036854775807) :
    Calls Try.prog 19 #[.agg #[.int .i64 p, .int .i64 s, .int .i64 v, .bool d]] w (RetN (nextF p s v d) w) := by
  unfold nextF
  cases hk : validB p s v with
  | false => exact next_bad p s v d w hv1 hv2 hk
  | true =>
    have hp := valid_phase hk
    have hp' : p = 1 ∨ p = 2 ∨ p = 3 ∨ p = 4 ∨ p = 5 := by omega
    rcases hp' with rfl | rfl | rfl | rfl | rfl
    · exact next_1 s v d w hv1 hv2 hk
    · exact next_2 s v d w hv1 hv2 hk
    · exact next_3 s v d w hv1 hv2 hk
    · exact next_4 s v d w hv1 hv2 hk
    · exact next_5 s v d w hv1 hv2 hk

end Go.Proofs.Ytpkgcklnknbbcaa
