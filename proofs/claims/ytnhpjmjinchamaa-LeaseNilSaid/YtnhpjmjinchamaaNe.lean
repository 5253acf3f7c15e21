/- Leases of nil. -/
import Derived.Test.YtnhpjmjinchamaaNc
import Derived.Test.YtnhpjmjinchamaaSl
import Derived.Shelf.GgSortFunc.Tiny
set_option linter.unusedVariables false
set_option linter.unusedSimpArgs false
set_option linter.unnecessarySimpa false
namespace Go.Proofs.Ytnhpjmjinchamaa
open Go Go.Shelf Go.RowKit Go.MapKept Go.ChangeMaps Go.Lib

noncomputable def siT : TypeInfo := (Try.prog.info? 37).get (by kernel_rfl)
noncomputable def siE : TypeInfo := (Try.prog.info? 46).get (by kernel_rfl)
theorem swapper_none : Try.prog.funcs.findIdx? (·.name == "internal/reflectlite" ++ ".Swapper$" ++ toString 1) = some 65 := by kernel_rfl
theorem slice_nil (lf : Fn) (la lb : Array Value) (w : World) : Calls Try.prog 44 #[.iface 37 (.slice none 0 0), .func lf la lb] w fun e w' => e = .returned (.tuple #[]) ∧ Below w.heap.size w w' := by
  have hK : Lib.swapperK 0 siE 25 = 1 := by simp [Lib.swapperK]
  refine (Any.sort_Slice_tiny slice6 37 46 siT siE (by kernel_rfl) (by kernel_rfl) (by kernel_rfl) (by kernel_rfl) 25 (fun _ => by kernel_rfl) none 0 0 (by omega) 65 (by rw [hK]; exact swapper_none) lf la lb w).mono ?_
  rintro e w' ⟨rfl, os, rfl⟩
  exact ⟨rfl, rfl, rfl, rfl, by simp [Sort.grow], fun k hk => by simp [Sort.grow, Array.getElem?_append, hk]⟩

theorem range_nil (w : World) : (Instr.range 66 (.map none)).run Try.prog w = .ok (.pointer (some ⟨w.heap.size, 0, none⟩)) (w.alloc (.mapIter none 0 #[] 0)) := by
  simp [Instr.range, run_underlying map66, Result.andThen]
theorem next_nil (w : World) (r : Nat) (ty : TypeId) (h : w.heap[r]? = some (.mapIter none 0 #[] 0)) : (Instr.next (.pointer (some ⟨r, 0, none⟩)) false ty).run Try.prog w = .ok (.tuple #[.bool false]) w := by
  have hg : (getObj r).run Try.prog w = .ok (.mapIter none 0 #[] 0) w := by simp [getObj, Sem.run, h]
  simp [Instr.next, hg, Result.andThen]
theorem row_kept (w : World) (t : TypeId) (w1 : World) (hb : Below (((w.alloc (.cells #[.slice none 0 0] 37)).alloc (.cells noC t)).alloc (.mapIter none 0 #[] 0)).heap.size (((w.alloc (.cells #[.slice none 0 0] 37)).alloc (.cells noC t)).alloc (.mapIter none 0 #[] 0)) w1) : w1.cell? ⟨w.heap.size, 0, none⟩ = some (.slice none 0 0) := by
  have b1 : Below (w.alloc (.cells #[.slice none 0 0] 37)).heap.size (w.alloc (.cells #[.slice none 0 0] 37)) w1 := (((Below.refl _ _).alloc (Nat.le_refl _) _).alloc (by simp) _).trans (hb.mono (by simp <;> omega))
  refine (b1.cell (p := ⟨w.heap.size, 0, none⟩) (by show w.heap.size < _; simp)).trans (by simp)
set_option maxRecDepth 20000 in
theorem leases_nil (w : World) : Calls Try.prog 26 #[nilT] w fun e w' => e = .returned (.slice none 0 0) ∧ Below w.heap.size w w' := by
  go_enter Try.func26, Try.ntmps26
  go_wp2_with (first
    | (go_at_call 36; (with_reducible refine (view_nil _).mono ?_); rintro e w1 ⟨b, t, r, rfl, ⟨c0, c1, c2, c3, c4, c5⟩, hb, rfl, rfl⟩; have HB := Lib.hid hb; clear hb; have hr := range_nil ((w.alloc (.cells #[.slice none 0 0] 37)).alloc (.cells noC t)); have hn := next_nil (((w.alloc (.cells #[.slice none 0 0] 37)).alloc (.cells noC t)).alloc (.mapIter none 0 #[] 0)) (w.heap.size + 1 + 1) 0 (by simpa using (MapKept.heap_alloc ((w.alloc (.cells #[.slice none 0 0] 37)).alloc (.cells noC t)) (.mapIter none 0 #[] 0)).1)))
  refine wp_loop_rounds 1 ?_
  rw [rounds_succ]
  go_wp2_with (go_at_call 44; (with_reducible refine (slice_nil _ _ _ _).mono ?_); rintro e w1 ⟨rfl, hb⟩; have HB2 := Lib.hid hb; have hc := row_kept w t w1 hb; clear hb)
  go_ret
  exact ⟨rfl, ((((Below.refl _ _).alloc (Nat.le_refl _) _).alloc (by simp) _).alloc (by simp <;> omega) _).trans (HB2.out.mono (by simp <;> omega))⟩
end Go.Proofs.Ytnhpjmjinchamaa
