/- New; the methods of a nil queue. -/
import Derived.Test.YtgnmolleaengaaaGreatQb
set_option linter.unusedVariables false
set_option linter.unusedSimpArgs false
set_option linter.unnecessarySimpa false
namespace Go.Proofs.YtgnmolleaengaaaGreat
open Go Go.RowKit

theorem new_as {n : Nat} (h1 : 1 ≤ n) (h2 : n ≤ 48) (w : World) : Calls Tryz.prog 12 #[.int .i64 n] w fun e w' => ∃ qb, e = .returned (.tuple #[.pointer (some ⟨qb, 0, none⟩), .int .i64 0]) ∧ Qp w.heap.size qb n [] w' ∧ Below w.heap.size w w' := by
  have q1 : decide ((n : Int) < 1) = false := by simp; omega
  have q2 : decide ((48 : Int) < (n : Int)) = false := by simp; omega
  have hH := Holds.new w #[.int .i64 n, .slice none 0 0] 68
  have HQ := Lib.hid (show Qp w.heap.size w.heap.size n [] (w.alloc (.cells #[.int .i64 n, .slice none 0 0] 68)) from
    ⟨hH.cell 0 _ rfl, ⟨_, hH.cell 1 _ rfl, World.ownsRow_nil _ _ _ _⟩, hH.thaw, TyB.new _ _ _, Nat.le_refl _, fun x hx => (by cases hx), fun x hx => (by cases hx)⟩)
  clear hH
  go_enter Tryz.func12, Tryz.ntmps12
  go_wp2_with fail
  go_ret2
  exact ⟨_, rfl, HQ.out, below_alloc _ _⟩

theorem find_nil (k : Ky) (w : World) : Calls Tryz.prog 33 #[.pointer none, kv k] w fun e w' => e = .returned (.int .i64 (-1)) ∧ Below w.heap.size w w' := by
  obtain ⟨k1, k2⟩ := k
  go_enter Tryz.func33, Tryz.ntmps33
  go_wp2_with fail
  go_ret
  exact ⟨rfl, below_alloc _ _⟩
theorem remove_nil (k : Ky) (w : World) : Calls Tryz.prog 22 #[.pointer none, kv k] w fun e w' => e = .returned (.int .i64 110) ∧ Below w.heap.size w w' := by
  have HB := Lib.hid (below_alloc w (.cells #[.int .i64 k.1, .int .i64 k.2] 33))
  have HF := fun w => Lib.hid (find_nil k w)
  obtain ⟨k1, k2⟩ := k
  go_enter Tryz.func22, Tryz.ntmps22
  go_wp2_with (go_at_call 33; (with_reducible refine (HF _).out.mono ?_); rintro e w1 ⟨rfl, hb⟩; have HB1 := Lib.hid (HB.out.trans (hb.mono HB.out.size)); clear hb)
  go_ret
  exact ⟨rfl, HB1.out⟩
theorem held_nil (k : Ky) (w : World) : Calls Tryz.prog 23 #[.pointer none, kv k] w fun e w' => e = .returned (.int .i64 110) ∧ Below w.heap.size w w' := by
  have HB := Lib.hid (below_alloc w (.cells #[.int .i64 k.1, .int .i64 k.2] 33))
  have HF := fun w => Lib.hid (find_nil k w)
  obtain ⟨k1, k2⟩ := k
  go_enter Tryz.func23, Tryz.ntmps23
  go_wp2_with (go_at_call 33; (with_reducible refine (HF _).out.mono ?_); rintro e w1 ⟨rfl, hb⟩; have HB1 := Lib.hid (HB.out.trans (hb.mono HB.out.size)); clear hb)
  go_ret
  exact ⟨rfl, HB1.out⟩
theorem put_nil (j : Jb) (an ad : Option Addr) (n1 c1 n2 c2 : Nat) (w : World) : Calls Tryz.prog 16 #[.pointer none, jv j (.slice an n1 c1) (.slice ad n2 c2)] w fun e w' => e = .returned (.int .i64 110) ∧ Below w.heap.size w w' := by
  have HB := Lib.hid (below_alloc w (.cells (jc j (.slice an n1 c1) (.slice ad n2 c2)) 29))
  obtain ⟨a1, a2, a3, a4, a5, a6⟩ := j
  go_enter Tryz.func16, Tryz.ntmps16
  go_wp2_with fail
  go_ret
  exact ⟨rfl, HB.out⟩
theorem schedule_nil (w : World) : Calls Tryz.prog 25 #[.pointer none] w fun e w' => e = .returned (.tuple #[.slice none 0 0, .slice none 0 0]) ∧ Below w.heap.size w w' := by
  go_enter Tryz.func25, Tryz.ntmps25
  go_wp2_with fail
  go_ret2
  exact ⟨rfl, Below.refl _ _⟩
theorem running_nil (w : World) : Calls Tryz.prog 18 #[.pointer none] w fun e w' => e = .returned (.slice none 0 0) ∧ Below w.heap.size w w' := by
  go_enter Tryz.func18, Tryz.ntmps18
  go_wp2_with fail
  go_ret
  exact ⟨rfl, Below.refl _ _⟩
theorem jobs_nil (w : World) : Calls Tryz.prog 17 #[.pointer none] w fun e w' => e = .returned (.slice none 0 0) ∧ Below w.heap.size w w' := by
  go_enter Tryz.func17, Tryz.ntmps17
  go_wp2_with fail
  go_ret
  exact ⟨rfl, Below.refl _ _⟩
end Go.Proofs.YtgnmolleaengaaaGreat
