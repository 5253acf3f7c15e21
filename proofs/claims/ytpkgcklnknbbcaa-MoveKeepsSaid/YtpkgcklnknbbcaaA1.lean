/- The walks of awake and Near. -/
import Derived.Test.YtpkgcklnknbbcaaP3
import Derived.Test.YtpkgcklnknbbcaaN1
import Derived.Test.YtpkgcklnknbbcaaN3
import Derived.Test.YtpkgcklnknbbcaaN4
set_option linter.unusedVariables false
set_option linter.unusedSimpArgs false
set_option linter.unnecessarySimpa false
namespace Go.Proofs.Ytpkgcklnknbbcaa
open Go.RowKit

theorem evs3 (w : World) (n : Nat) (a b c d e f : Int) (t : TypeId) (hn : n = w.heap.size) : Evs (w.alloc (.cells #[.int .i64 a, .int .i64 b, .int .i64 c, .int .i64 d, .int .i64 e, .int .i64 f] t)) (.slice (some ⟨n, 0, none⟩) 3 3) [(a, b), (c, d), (e, f)] := by
  subst hn
  refine ⟨some ⟨w.heap.size, 0, none⟩, 3, rfl, by simp, fun i hi => ⟨w.heap.size, 0, rfl, by simp, ?_⟩⟩
  have h3 : i = 0 ∨ i = 1 ∨ i = 2 := by simp at hi; omega
  rcases h3 with rfl | rfl | rfl <;> simp [World.cell?_alloc_new]

theorem awake_play : playF (1, 2, 0, true) [(1, 1), (3, 0), (6, 0)] 0 = ((1, 2, 2, false), 2) := by decide +kernel

theorem begin_2 (w : World) : Calls Try.prog 10 #[.int .i64 2, .bool true] w fun e w' => e = .returned (.tuple #[.agg #[.int .i64 1, .int .i64 2, .int .i64 0, .bool true], .int .i64 0]) ∧ Below w.heap.size w w' := begin_any 2 true w
theorem play_aw (vl : Value) (w : World) (he : Evs w vl [(1, 1), (3, 0), (6, 0)]) : Calls Try.prog 23 #[.agg #[.int .i64 1, .int .i64 2, .int .i64 0, .bool true], vl] w fun e w' => e = .returned (.tuple #[.agg #[.int .i64 1, .int .i64 2, .int .i64 2, .bool false], .int .i64 2]) ∧ Below w.heap.size w w' := by
  have := play_any 1 2 0 true _ vl w he (by decide) (by decide)
  rw [awake_play] at this
  exact this
theorem next_aw (w : World) : Calls Try.prog 19 #[.agg #[.int .i64 1, .int .i64 2, .int .i64 2, .bool false]] w fun e w' => e = .returned (.agg #[.int .i64 2, .int .i64 0]) ∧ Below w.heap.size w w' := by
  have := next_any 1 2 2 false w (by decide) (by decide)
  rw [show nextF 1 2 2 false = (2, 0) by decide +kernel] at this
  exact this
theorem work_aw (w : World) : Calls Try.prog 21 #[.agg #[.int .i64 1, .int .i64 2, .int .i64 2, .bool false]] w fun e w' => e = .returned (.int .i64 3) ∧ Below w.heap.size w w' := by
  have := work_any 1 2 2 false w (by decide) (by decide)
  rw [show workF 1 2 2 = 3 by decide +kernel] at this
  exact this

/-- the world has grown since W -/
theorem grow_alloc {B : Nat} {a w : World} (h : Below B a w) (hB : B ≤ a.heap.size) (o : Obj) : Below B a (w.alloc o) := h.alloc (Nat.le_trans hB h.size) o

def evArr : Obj := .cells #[.int .i64 1, .int .i64 1, .int .i64 3, .int .i64 0, .int .i64 6, .int .i64 0] 32

set_option maxHeartbeats 1000000 in
theorem awake_any (w : World) : Calls Try.prog 13 #[] w (RetB true w) := by
  go_enter Try.func13, Try.ntmps13
  go_wp2_with (first
    | (go_at_call 10; refine (begin_2 _).mono ?_; rintro e w1 ⟨rfl, hb1⟩; have HB1 := Lib.hid hb1; clear hb1)
    | (go_at_call 23; refine (play_aw _ _ (evs3 _ _ _ _ _ _ _ _ _ (by simp))).mono ?_; rintro e w2 ⟨rfl, hb2⟩; have HB2 := Lib.hid ((HB1.out.alloc HB1.out.size _).trans ((below_of_allocs _).mono (by simp; exact Nat.le_succ_of_le HB1.out.size) |>.trans (hb2.mono (by simp; have := HB1.out.size; omega)))); clear hb2)
    | (go_at_call 19; refine (next_aw _).mono ?_; rintro e w3 ⟨rfl, hb3⟩; obtain ⟨c0, c1, c2, c3⟩ := (at4_new w2 1 2 2 false).below hb3 (by simp); have HB3 := Lib.hid ((HB2.out.alloc HB2.out.size _).trans (hb3.mono (by simp; exact Nat.le_succ_of_le HB2.out.size))); clear hb3)
    | (go_at_call 21; refine (work_aw _).mono ?_; rintro e w4 ⟨rfl, hb4⟩; have HB4 := Lib.hid (HB3.out.trans (hb4.mono HB3.out.size)); clear hb4))
  go_ret
  exact ⟨rfl, HB4.out⟩
end Go.Proofs.Ytpkgcklnknbbcaa
