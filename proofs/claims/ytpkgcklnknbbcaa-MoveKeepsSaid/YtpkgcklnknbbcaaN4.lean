/- The walks of Work and of the reference's Work. -/
import Derived.Test.YtpkgcklnknbbcaaN2
import Derived.Outline
set_option linter.unusedVariables false
set_option linter.unusedSimpArgs false
set_option linter.unnecessarySimpa false
namespace Go.Proofs.Ytpkgcklnknbbcaa
open Go.RowKit

def bitI (v t : Int) : Int := (v / 2 ^ t.toNat) % 2
def workF (p s v : Int) : Int :=
  if validB p s v = false then 0 else if p = 1 then 2 + ((1 - bitI v 0) + (if 1 < s then 1 - bitI v 1 else 0) + (if 2 < s then 1 - bitI v 2 else 0) + (if 3 < s then 1 - bitI v 3 else 0)) else if p = 2 then 2 else if p = 3 then 1 else 0

theorem bitI_small : ∀ (v : Fin 16), bits .and .i64 (v.val : Int) 1 = bitI (v.val : Int) 0 ∧ bits .and .i64 ((v.val : Int) / 2) 1 = bitI (v.val : Int) 1 ∧
    bits .and .i64 ((v.val : Int) / 4) 1 = bitI (v.val : Int) 2 ∧ bits .and .i64 ((v.val : Int) / 8) 1 = bitI (v.val : Int) 3 := by decide +kernel
theorem bitI_bd (v t : Int) : 0 ≤ bitI v t ∧ bitI v t ≤ 1 := by unfold bitI; omega
theorem bitI_facts {p s v : Int} (h : validB p s v = true) : bits .and .i64 v 1 = bitI v 0 ∧ bits .and .i64 (v / 2) 1 = bitI v 1 ∧ bits .and .i64 (v / 4) 1 = bitI v 2 ∧ bits .and .i64 (v / 8) 1 = bitI v 3 := by
  obtain ⟨h1, h4, h2, h3⟩ := valid_bounds h
  have h15 := allOf_le h1 h4
  have b := bitI_small ⟨v.toNat, by omega⟩
  simp only [Int.toNat_of_nonneg h2] at b
  exact b

structure In1 (w w' : World) (p s v : Int) (d : Bool) : Prop where
  a : At4 w' w.heap.size p s v d
  below : Below w.heap.size w w'
theorem enter1_call {w w' : World} {p s v : Int} {d : Bool}
    (h : Below (w.alloc (.cells #[.int .i64 p, .int .i64 s, .int .i64 v, .bool d] 23)).heap.size (w.alloc (.cells #[.int .i64 p, .int .i64 s, .int .i64 v, .bool d] 23)) w') : In1 w w' p s v d := by
  have a1 := at4_new w p s v d
  have b1 : Below w.heap.size w (w.alloc (.cells #[.int .i64 p, .int .i64 s, .int .i64 v, .bool d] 23)) := below_of_allocs _
  have z1 : (w.alloc (.cells #[.int .i64 p, .int .i64 s, .int .i64 v, .bool d] 23)).heap.size = w.heap.size + 1 := by simp
  generalize w.alloc (.cells #[.int .i64 p, .int .i64 s, .int .i64 v, .bool d] 23) = w1 at *
  exact ⟨a1.below h (by omega), b1.trans (h.mono (by omega))⟩



set_option maxHeartbeats 1000000 in
theorem work_bad (p s v : Int) (d : Bool) (w : World) (hv1 : -9223372036854775808 ≤ v) (hv2 : v ≤ 9223372036854775807) (hk : validB p s v = false) :
    Calls Try.prog 21 #[.agg #[.int .i64 p, .int .i64 s, .int .i64 v, .bool d]] w (RetInt 0 w) := by
  have hv := Lib.hid hk
  clear hk
  go_enter Try.func21, Try.ntmps21
  go_wp2_with ((go_at_call 14; refine (valid_any _ _ _ _ _ hv1 hv2).mono ?_; rintro e w1 ⟨rfl, hb1⟩; have HI := Lib.hid (enter1_call hb1); obtain ⟨c0, c1, c2, c3⟩ := HI.out.a; have hval := hv.out; clear hb1))
  go_ret
  exact ⟨rfl, HI.out.below⟩

set_option maxHeartbeats 1000000 in
theorem work_2 (s v : Int) (d : Bool) (w : World) (hv1 : -9223372036854775808 ≤ v) (hv2 : v ≤ 9223372036854775807) (hk : validB 2 s v = true) :
    Calls Try.prog 21 #[.agg #[.int .i64 2, .int .i64 s, .int .i64 v, .bool d]] w (RetInt 2 w) := by
  have hv := Lib.hid hk
  clear hk
  go_enter Try.func21, Try.ntmps21
  go_wp2_with ((go_at_call 14; refine (valid_any _ _ _ _ _ hv1 hv2).mono ?_; rintro e w1 ⟨rfl, hb1⟩; have HI := Lib.hid (enter1_call hb1); obtain ⟨c0, c1, c2, c3⟩ := HI.out.a; have hval := hv.out; clear hb1))
  go_ret
  exact ⟨rfl, HI.out.below⟩

set_option maxHeartbeats 1000000 in
theorem work_3 (s v : Int) (d : Bool) (w : World) (hv1 : -9223372036854775808 ≤ v) (hv2 : v ≤ 9223372036854775807) (hk : validB 3 s v = true) :
    Calls Try.prog 21 #[.agg #[.int .i64 3, .int .i64 s, .int .i64 v, .bool d]] w (RetInt 1 w) := by
  have hv := Lib.hid hk
  clear hk
  go_enter Try.func21, Try.ntmps21
  go_wp2_with ((go_at_call 14; refine (valid_any _ _ _ _ _ hv1 hv2).mono ?_; rintro e w1 ⟨rfl, hb1⟩; have HI := Lib.hid (enter1_call hb1); obtain ⟨c0, c1, c2, c3⟩ := HI.out.a; have hval := hv.out; clear hb1))
  go_ret
  exact ⟨rfl, HI.out.below⟩

set_option maxHeartbeats 1000000 in
theorem work_4 (s v : Int) (d : Bool) (w : World) (hv1 : -9223372036854775808 ≤ v) (hv2 : v ≤ 9223372036854775807) (hk : validB 4 s v = true) :
    Calls Try.prog 21 #[.agg #[.int .i64 4, .int .i64 s, .int .i64 v, .bool d]] w (RetInt 0 w) := by
  have hv := Lib.hid hk
  clear hk
  go_enter Try.func21, Try.ntmps21
  go_wp2_with ((go_at_call 14; refine (valid_any _ _ _ _ _ hv1 hv2).mono ?_; rintro e w1 ⟨rfl, hb1⟩; have HI := Lib.hid (enter1_call hb1); obtain ⟨c0, c1, c2, c3⟩ := HI.out.a; have hval := hv.out; clear hb1))
  go_ret
  exact ⟨rfl, HI.out.below⟩

set_option maxHeartbeats 1000000 in
theorem work_5 (s v : Int) (d : Bool) (w : World) (hv1 : -9223372036854775808 ≤ v) (hv2 : v ≤ 9223372036854775807) (hk : validB 5 s v = true) :
    Calls Try.prog 21 #[.agg #[.int .i64 5, .int .i64 s, .int .i64 v, .bool d]] w (RetInt 0 w) := by
  have hv := Lib.hid hk
  clear hk
  go_enter Try.func21, Try.ntmps21
  go_wp2_with ((go_at_call 14; refine (valid_any _ _ _ _ _ hv1 hv2).mono ?_; rintro e w1 ⟨rfl, hb1⟩; have HI := Lib.hid (enter1_call hb1); obtain ⟨c0, c1, c2, c3⟩ := HI.out.a; have hval := hv.out; clear hb1))
  go_ret
  exact ⟨rfl, HI.out.below⟩

set_option maxHeartbeats 4000000 in
theorem work_1 (s v : Int) (d : Bool) (w : World) (hv1 : -9223372036854775808 ≤ v) (hv2 : v ≤ 9223372036854775807) (hk : validB 1 s v = true) :
    Calls Try.prog 21 #[.agg #[.int .i64 1, .int .i64 s, .int .i64 v, .bool d]] w (RetInt (2 + ((1 - bitI v 0) + (if 1 < s then 1 - bitI v 1 else 0) + (if 2 < s then 1 - bitI v 2 else 0) + (if 3 < s then 1 - bitI v 3 else 0))) w) := by
  obtain ⟨s1, s4, _, _⟩ := valid_bounds hk
  obtain ⟨g0, g1, g2, g3⟩ := bitI_facts hk
  have y0 := bitI_bd v 0
  have y1 := bitI_bd v 1
  have y2 := bitI_bd v 2
  have y3 := bitI_bd v 3
  generalize bitI v 0 = b0 at *
  generalize bitI v 1 = b1 at *
  generalize bitI v 2 = b2 at *
  generalize bitI v 3 = b3 at *
  obtain ⟨l0, u0⟩ := y0
  obtain ⟨l1, u1⟩ := y1
  obtain ⟨l2, u2⟩ := y2
  obtain ⟨l3, u3⟩ := y3
  have hs : s = 1 ∨ s = 2 ∨ s = 3 ∨ s = 4 := by omega
  have hv := Lib.hid hk
  clear hk s1 s4
  rcases hs with rfl | rfl | rfl | rfl
  all_goals
    go_enter Try.func21, Try.ntmps21
    go_wp2_with ((go_at_call 14; refine (valid_any _ _ _ _ _ hv1 hv2).mono ?_; rintro e w1 ⟨rfl, hb1⟩; have HI := Lib.hid (enter1_call hb1); obtain ⟨c0, c1, c2, c3⟩ := HI.out.a; have hval := hv.out; clear hb1))
    refine wp_loop_rounds 5 ?_
    repeat (rw [rounds_succ]; go_wp2_with fail)
    go_ret
    refine ⟨congrArg (fun z => Ending.returned (.int .i64 z)) ?_, HI.out.below⟩
    (try simp); (try omega)

theorem work_any (p s v : Int) (d : Bool) (w : World) (hv1 : -9223372036854775808 ≤ v) (hv2 : v ≤ 9223372036854775807) :
    Calls Try.prog 21 #[.agg #[.int .i64 p, .int .i64 s, .int .i64 v, .bool d]] w (RetInt (workF p s v) w) := by
  unfold workF
  cases hk : validB p s v with
  | false => exact work_bad p s v d w hv1 hv2 hk
  | true =>
    have hp := valid_phase hk
    have hp' : p = 1 ∨ p = 2 ∨ p = 3 ∨ p = 4 ∨ p = 5 := by omega
    rcases hp' with rfl | rfl | rfl | rfl | rfl
    · exact work_1 s v d w hv1 hv2 hk
    · exact work_2 s v d w hv1 hv2 hk
    · exact work_3 s v d w hv1 hv2 hk
    · exact work_4 s v d w hv1 hv2 hk
    · exact work_5 s v d w hv1 hv2 hk

set_option maxHeartbeats 1000000 in
theorem refWork_bad (p s v : Int) (d : Bool) (w : World) (hk : validB p s v = false) :
    Calls Try.prog 22 #[.agg #[.int .i64 p, .int .i64 s, .int .i64 v, .bool d]] w (RetInt 0 w) := by
  have hv := Lib.hid hk
  clear hk
  go_enter Try.func22, Try.ntmps22
  go_wp2_with ((go_at_call 18; refine (refValid_any _ _ _ _ _).mono ?_; rintro e w1 ⟨rfl, hb1⟩; have HI := Lib.hid (enter1_call hb1); obtain ⟨c0, c1, c2, c3⟩ := HI.out.a; have hval := hv.out; clear hb1))
  go_ret
  exact ⟨rfl, HI.out.below⟩

set_option maxHeartbeats 1000000 in
theorem refWork_2 (s v : Int) (d : Bool) (w : World) (hk : validB 2 s v = true) :
    Calls Try.prog 22 #[.agg #[.int .i64 2, .int .i64 s, .int .i64 v, .bool d]] w (RetInt 2 w) := by
  have hv := Lib.hid hk
  clear hk
  go_enter Try.func22, Try.ntmps22
  go_wp2_with ((go_at_call 18; refine (refValid_any _ _ _ _ _).mono ?_; rintro e w1 ⟨rfl, hb1⟩; have HI := Lib.hid (enter1_call hb1); obtain ⟨c0, c1, c2, c3⟩ := HI.out.a; have hval := hv.out; clear hb1))
  go_ret
  exact ⟨rfl, HI.out.below⟩

set_option maxHeartbeats 1000000 in
theorem refWork_3 (s v : Int) (d : Bool) (w : World) (hk : validB 3 s v = true) :
    Calls Try.prog 22 #[.agg #[.int .i64 3, .int .i64 s, .int .i64 v, .bool d]] w (RetInt 1 w) := by
  have hv := Lib.hid hk
  clear hk
  go_enter Try.func22, Try.ntmps22
  go_wp2_with ((go_at_call 18; refine (refValid_any _ _ _ _ _).mono ?_; rintro e w1 ⟨rfl, hb1⟩; have HI := Lib.hid (enter1_call hb1); obtain ⟨c0, c1, c2, c3⟩ := HI.out.a; have hval := hv.out; clear hb1))
  go_ret
  exact ⟨rfl, HI.out.below⟩

set_option maxHeartbeats 1000000 in
theorem refWork_4 (s v : Int) (d : Bool) (w : World) (hk : validB 4 s v = true) :
    Calls Try.prog 22 #[.agg #[.int .i64 4, .int .i64 s, .int .i64 v, .bool d]] w (RetInt 0 w) := by
  have hv := Lib.hid hk
  clear hk
  go_enter Try.func22, Try.ntmps22
  go_wp2_with ((go_at_call 18; refine (refValid_any _ _ _ _ _).mono ?_; rintro e w1 ⟨rfl, hb1⟩; have HI := Lib.hid (enter1_call hb1); obtain ⟨c0, c1, c2, c3⟩ := HI.out.a; have hval := hv.out; clear hb1))
  go_ret
  exact ⟨rfl, HI.out.below⟩

set_option maxHeartbeats 1000000 in
theorem refWork_5 (s v : Int) (d : Bool) (w : World) (hk : validB 5 s v = true) :
    Calls Try.prog 22 #[.agg #[.int .i64 5, .int .i64 s, .int .i64 v, .bool d]] w (RetInt 0 w) := by
  have hv := Lib.hid hk
  clear hk
  go_enter Try.func22, Try.ntmps22
  go_wp2_with ((go_at_call 18; refine (refValid_any _ _ _ _ _).mono ?_; rintro e w1 ⟨rfl, hb1⟩; have HI := Lib.hid (enter1_call hb1); obtain ⟨c0, c1, c2, c3⟩ := HI.out.a; have hval := hv.out; clear hb1))
  go_ret
  exact ⟨rfl, HI.out.below⟩

set_option maxHeartbeats 4000000 in
theorem refWork_1 (s v : Int) (d : Bool) (w : World) (hk : validB 1 s v = true) :
    Calls Try.prog 22 #[.agg #[.int .i64 1, .int .i64 s, .int .i64 v, .bool d]] w (RetInt (2 + ((1 - bitI v 0) + (if 1 < s then 1 - bitI v 1 else 0) + (if 2 < s then 1 - bitI v 2 else 0) + (if 3 < s then 1 - bitI v 3 else 0))) w) := by
  obtain ⟨s1, s4, _, _⟩ := valid_bounds hk
  obtain ⟨g0, g1, g2, g3⟩ := bitI_facts hk
  have y0 := bitI_bd v 0
  have y1 := bitI_bd v 1
  have y2 := bitI_bd v 2
  have y3 := bitI_bd v 3
  generalize bitI v 0 = b0 at *
  generalize bitI v 1 = b1 at *
  generalize bitI v 2 = b2 at *
  generalize bitI v 3 = b3 at *
  obtain ⟨l0, u0⟩ := y0
  obtain ⟨l1, u1⟩ := y1
  obtain ⟨l2, u2⟩ := y2
  obtain ⟨l3, u3⟩ := y3
  have hs : s = 1 ∨ s = 2 ∨ s = 3 ∨ s = 4 := by omega
  have hv := Lib.hid hk
  clear hk s1 s4
  rcases hs with rfl | rfl | rfl | rfl
  all_goals
    go_enter Try.func22, Try.ntmps22
    go_wp2_with ((go_at_call 18; refine (refValid_any _ _ _ _ _).mono ?_; rintro e w1 ⟨rfl, hb1⟩; have HI := Lib.hid (enter1_call hb1); obtain ⟨c0, c1, c2, c3⟩ := HI.out.a; have hval := hv.out; clear hb1))
    refine wp_loop_rounds 5 ?_
    repeat (rw [rounds_succ]; go_wp2_with fail)
    go_ret
    refine ⟨congrArg (fun z => Ending.returned (.int .i64 z)) ?_, HI.out.below⟩
    (try simp); (try omega)

theorem refWork_any (p s v : Int) (d : Bool) (w : World) :
    Calls Try.prog 22 #[.agg #[.int .i64 p, .int .i64 s, .int .i64 v, .bool d]] w (RetInt (workF p s v) w) := by
  unfold workF
  cases hk : validB p s v with
  | false => exact refWork_bad p s v d w hk
  | true =>
    have hp := valid_phase hk
    have hp' : p = 1 ∨ p = 2 ∨ p = 3 ∨ p = 4 ∨ p = 5 := by omega
    rcases hp' with rfl | rfl | rfl | rfl | rfl
    · exact refWork_1 s v d w hk
    · exact refWork_2 s v d w hk
    · exact refWork_3 s v d w hk
    · exact refWork_4 s v d w hk
    · exact refWork_5 s v d w hk

end Go.Proofs.Ytpkgcklnknbbcaa
