/- The walk of awake. -/
import Derived.Test.YtkjamafpohnflaaW4
set_option linter.unusedVariables false
set_option linter.unusedSimpArgs false
set_option linter.unnecessarySimpa false
namespace Go.Proofs.Ytkjamafpohnflaa
open Go Go.RowKit Go.Mem

def awT : List Int := [-1, 0, 0, 1, 1, 2]
theorem awT_ok : Tree.Ok awT := (Tree.okB_iff _).1 (by decide)
theorem aw_path : pathI awT 3 5 = [1, 2, 3, 5] := by
  have : Tree.pathL awT 3 5 = [1, 2, 3, 5] := by
    simp [Tree.pathL, awT, List.range, List.range.loop, Tree.bel, Tree.up]
  unfold pathI
  rw [this]; rfl
theorem aw_meet : IsMeet awT 3 4 1 := by
  refine ⟨by simp [awT, Tree.bel, Tree.up], by simp [awT, Tree.bel, Tree.up], fun i h1 h2 => ?_⟩
  have := Tree.bel_ge h1
  have : i = 0 ∨ i = 1 ∨ i = 2 ∨ i = 3 := by omega
  rcases this with rfl | rfl | rfl | rfl
  · omega
  · omega
  · simp [awT, Tree.bel, Tree.up] at h1
  · simp [awT, Tree.bel, Tree.up] at h2
theorem aw_check : codeOf [0] = 112 := by decide

theorem below_drewN {B : Nat} {a w : World} (n : Nat) (h : Below B a w) : Below B a (w.drewN n) := ⟨h.os, h.tape, h.output, h.size, h.block⟩
def Path4 (w : World) (e : Ending) (w' : World) : Prop := ∃ a cap, e = .returned (.tuple #[.slice a 4 cap, .int .i64 0]) ∧ IntsAt w' (.slice a 4 cap) [1, 2, 3, 5] ∧ Below w.heap.size w w'
set_option maxRecDepth 20000 in
set_option maxHeartbeats 1000000 in
theorem awake_any (w : World) : Calls Try.prog 14 #[] w fun e w' => e = .returned (.bool true) ∧ Below w.heap.size w w' := by
  have HT := Lib.hid (show IntsAt (w.alloc (.cells #[.int .i64 (-1), .int .i64 0, .int .i64 0, .int .i64 1, .int .i64 1, .int .i64 2] 3)) (.slice (some ⟨w.heap.size, 0, none⟩) 6 6) awT from IntsAt.new w awT (by decide) 3)
  have HB0 := Lib.hid (below_alloc w (.cells #[.int .i64 (-1), .int .i64 0, .int .i64 0, .int .i64 1, .int .i64 1, .int .i64 2] 3))
  have K1 := fun (w : World) (v : Value) (h : IntsAt w v awT) => Lib.hid (show Calls Try.prog 11 #[v, .int .i64 3, .int .i64 5] w (Path4 w) from (show Calls Try.prog 11 #[v, .int .i64 3, .int .i64 5] w (PathPost w [1, 2, 3, 5]) from aw_path ▸ Path_ok v awT 3 5 w h awT_ok (by decide) (by decide)))
  have K2 := fun (w : World) (v : Value) (h : IntsAt w v awT) => Lib.hid (show Calls Try.prog 15 #[v, .int .i64 3, .int .i64 4] w _ from meet_ok v awT 3 4 1 w h awT_ok (by decide) (by decide) aw_meet)
  have K3 := fun (w : World) (v : Value) (h : IntsAt w v [0]) => Lib.hid (show Calls Try.prog 23 #[v] w _ from aw_check ▸ check23_any v [0] w h)
  have K4 := fun (w : World) (u v : Value) (h : IntsAt w u [1, 2, 3, 5]) (h2 : IntsAt w v [1, 2, 3, 5]) => Lib.hid (show Calls Try.prog 12 #[u, v] w (fun e w' => e = .returned (.bool true) ∧ Below w.heap.size w w') from (same_any u v _ _ w h h2).mono fun e w' ⟨h1, q, h2⟩ => ⟨h1, by rw [h2]; exact below_drewN q (Below.refl _ _)⟩)
  go_enter Try.func14, Try.ntmps14
  go_wp2_with (first
    | (go_at_call 11; (with_reducible refine (K1 _ _ HT.out).out.mono ?_); rintro e w1 ⟨pa, pc, rfl, hp, hb1⟩; have HT1 := Lib.hid (HT.out.keep hb1); have HP := Lib.hid hp; have HB1 := Lib.hid (HB0.out.trans (hb1.mono HB0.out.size)); clear hp hb1)
    | (go_at_call 15; (with_reducible refine (K2 _ _ HT1.out).out.mono ?_); rintro e w2 ⟨rfl, hb2⟩; have HP2 := Lib.hid (HP.out.keep hb2); have HB2 := Lib.hid (HB1.out.trans (hb2.mono HB1.out.size)); have HN2 := Lib.hid (show IntsAt (w2.alloc (.cells #[.int .i64 1, .int .i64 2, .int .i64 3, .int .i64 5] 3)) (.slice (some ⟨w2.heap.size, 0, none⟩) 4 4) [1, 2, 3, 5] from IntsAt.new w2 [1, 2, 3, 5] (by decide) 3); have HP3 := Lib.hid (HP2.out.keep (below_alloc w2 (.cells #[.int .i64 1, .int .i64 2, .int .i64 3, .int .i64 5] 3))); have HB3 := Lib.hid (HB2.out.alloc HB2.out.size (.cells #[.int .i64 1, .int .i64 2, .int .i64 3, .int .i64 5] 3)); clear hb2)
    | (go_at_call 12; (with_reducible refine (K4 _ _ _ HP3.out HN2.out).out.mono ?_); rintro e w3 ⟨rfl, hb3⟩; have HB4 := Lib.hid (HB3.out.trans (hb3.mono HB3.out.size)); have HN4 := Lib.hid (show IntsAt (w3.alloc (.cells #[.int .i64 0] 3)) (.slice (some ⟨w3.heap.size, 0, none⟩) 1 1) [0] from IntsAt.new w3 [0] (by decide) 3); clear hb3)
    | (go_at_call 23; (with_reducible refine (K3 _ _ HN4.out).out.mono ?_); rintro e w4 ⟨rfl, rfl⟩))
  go_ret
  exact ⟨rfl, HB4.out.alloc HB4.out.size _⟩
end Go.Proofs.Ytkjamafpohnflaa
