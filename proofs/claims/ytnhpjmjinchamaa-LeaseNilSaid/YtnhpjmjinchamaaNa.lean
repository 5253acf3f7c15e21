/- The table's methods at the nil pointer. -/
import Derived.Test.YtnhpjmjinchamaaTi
set_option linter.unusedVariables false
set_option linter.unusedSimpArgs false
set_option linter.unnecessarySimpa false
namespace Go.Proofs.Ytnhpjmjinchamaa
open Go Go.RowKit Go.MapKept Go.ChangeMaps

abbrev nilT : Value := .pointer none
/-- the cells of a new table without maps -/
abbrev noC : Array Value := #[.map none, .map none, .map none, .map none, .int .i64 0, .int .i64 0]
def ViewNil (w : World) (e : Ending) (w' : World) : Prop := ∃ b t r, e = .returned (.pointer (some ⟨b, 0, none⟩)) ∧ (w'.cell? ⟨b, 0, none⟩ = some (.map r) ∧ w'.cell? ⟨b, 1, none⟩ = some (.map r) ∧ w'.cell? ⟨b, 2, none⟩ = some (.map r) ∧ w'.cell? ⟨b, 3, none⟩ = some (.map r) ∧ w'.cell? ⟨b, 4, none⟩ = some (.int .i64 0) ∧ w'.cell? ⟨b, 5, none⟩ = some (.int .i64 0)) ∧ b = w.heap.size ∧ r = none ∧ w' = w.alloc (.cells noC t)
theorem view_nil (w : World) : Calls Try.prog 36 #[nilT] w (ViewNil w) := by
  go_enter Try.func36, Try.ntmps36
  go_wp2
  go_ret
  exact ⟨_, _, none, rfl, by simp, rfl, rfl, rfl⟩
section
variable {ops : Array Oper} {rest : List Oper} {o : Oper} {a : Act} {Q : Exit → Act → World → Prop} {w : World} {m t : TypeId}
theorem look_no (x y : Operand) (hg : o.guard = none) (hop : o.op = Op.lookup m x y true) (K : PairKey Try.prog t) (hm : Try.prog.underlying m = some (.map t 46)) {r : Option Nat} (hr : r = none) (k : Pk) (hx : a.eval x = .map r ∧ a.eval y = kv k)
    (hK : wpList Try.prog ops Q rest (a.put o.dst (.tuple #[lv noL, .bool false])) w) : wpList Try.prog ops Q (o :: rest) a w := by
  subst hr
  refine wpList_plain hg fun K' hK' => ?_
  have hrun := lookup_nil (P := Try.prog) K hm (zero46 w) k true
  unfold Oper.wp
  simp [execOp, hop, hx.1, hx.2, hrun, Result.andThen]
  exact hK' _ _ hK
end

set_option maxRecDepth 20000 in
theorem home_nil (w : World) (v f : Int) : Calls Try.prog 19 #[nilT, .int .i64 v, .int .i64 f] w fun e w' => e = .returned (.tuple #[lv noL, .bool false]) ∧ Below w.heap.size w w' := by
  go_enter Try.func19, Try.ntmps19
  go_wp2_with (first
    | (go_at_call 36; (with_reducible refine (view_nil _).mono ?_); rintro e w1 ⟨b, t, r, rfl, ⟨c0, c1, c2, c3, c4, c5⟩, hb, hr, rfl⟩; have HB := Lib.hid hb; have HR := Lib.hid hr; clear hb hr)
    | (at_lookup; refine look_no _ _ rfl rfl pair70 map65 HR.out (v, f) ⟨rfl, rfl⟩ ?_))
  exact bodyPost_ret (v := .tuple #[lv noL, .bool false]) (by simp [results, Try.results19, go_sem]) rfl ⟨rfl, (((Below.refl _ _).alloc (Nat.le_refl _) _).alloc (by simp) _).alloc (by simp <;> omega) _⟩

set_option maxRecDepth 20000 in
theorem target_nil (w : World) (v f : Int) : Calls Try.prog 40 #[nilT, .int .i64 v, .int .i64 f] w fun e w' => e = .returned (.tuple #[lv noL, .bool false]) ∧ Below w.heap.size w w' := by
  go_enter Try.func40, Try.ntmps40
  go_wp2_with (first
    | (go_at_call 36; (with_reducible refine (view_nil _).mono ?_); rintro e w1 ⟨b, t, r, rfl, ⟨c0, c1, c2, c3, c4, c5⟩, hb, hr, rfl⟩; have HB := Lib.hid hb; have HR := Lib.hid hr; clear hb hr)
    | (at_lookup; refine look_no _ _ rfl rfl pair70 map65 HR.out (v, f) ⟨rfl, rfl⟩ ?_))
  exact bodyPost_ret (v := .tuple #[lv noL, .bool false]) (by simp [results, Try.results40, go_sem]) rfl ⟨rfl, (((Below.refl _ _).alloc (Nat.le_refl _) _).alloc (by simp) _).alloc (by simp <;> omega) _⟩

set_option maxRecDepth 20000 in
theorem at_nil (w : World) (d x : Int) : Calls Try.prog 25 #[nilT, .int .i64 d, .int .i64 x] w fun e w' => e = .returned (.tuple #[lv noL, .bool false]) ∧ Below w.heap.size w w' := by
  go_enter Try.func25, Try.ntmps25
  go_wp2_with (first
    | (go_at_call 36; (with_reducible refine (view_nil _).mono ?_); rintro e w1 ⟨b, t, r, rfl, ⟨c0, c1, c2, c3, c4, c5⟩, hb, hr, rfl⟩; have HB := Lib.hid hb; have HR := Lib.hid hr; clear hb hr)
    | (at_lookup; refine look_no _ _ rfl rfl pair72 map66 HR.out (d, x) ⟨rfl, rfl⟩ ?_))
  exact bodyPost_ret (v := .tuple #[lv noL, .bool false]) (by simp [results, Try.results25, go_sem]) rfl ⟨rfl, (((Below.refl _ _).alloc (Nat.le_refl _) _).alloc (by simp) _).alloc (by simp <;> omega) _⟩

theorem term_nil (w : World) : Calls Try.prog 14 #[nilT] w fun e w' => e = .returned (.int .i64 0) ∧ Below w.heap.size w w' := by
  go_enter Try.func14, Try.ntmps14
  go_wp2_with (first
    | (go_at_call 36; (with_reducible refine (view_nil _).mono ?_); rintro e w1 ⟨b, t, r, rfl, ⟨c0, c1, c2, c3, c4, c5⟩, hb, hr, rfl⟩; have HB := Lib.hid hb; have HR := Lib.hid hr; clear hb hr))
  go_ret
  exact ⟨rfl, (Below.refl _ _).alloc (Nat.le_refl _) _⟩
end Go.Proofs.Ytnhpjmjinchamaa
