/- The walks of the table's methods that look: view, prepare, Home, Target, At. -/
import Derived.Test.YtnhpjmjinchamaaTb
import Derived.Test.YtnhpjmjinchamaaMx
set_option linter.unusedVariables false
set_option linter.unusedSimpArgs false
set_option linter.unnecessarySimpa false
namespace Go.Proofs.Ytnhpjmjinchamaa
open Go Go.RowKit Go.MapKept Go.ChangeMaps

/-- view of a table that is there -/
theorem view_any (b : Nat) (w : World) : Calls Try.prog 36 #[.pointer (some ⟨b, 0, none⟩)] w fun e w' => e = .returned (.pointer (some ⟨b, 0, none⟩)) ∧ w = w' := by
  go_enter Try.func36, Try.ntmps36
  go_wp2
  go_ret
  exact ⟨rfl, rfl⟩

theorem prep_any {w : World} {i : Ids} {T : Tb} (h : TbAt w i T) : Calls Try.prog 35 #[i.ptr] w fun e w' => e = .returned (.tuple #[]) ∧ w = w' := by
  obtain ⟨c0, c1, c2, c3, c4, c5, -⟩ := h.box.lay6
  have hmm := fun (w : World) (r : Option Nat) => run_eql_map_nil (P := Try.prog) w 64 70 3 r map64
  go_enter Try.func35, Try.ntmps35
  go_wp2_with fail
  go_end0
  exact ⟨rfl, rfl⟩

set_option maxHeartbeats 400000 in
theorem home_as {w : World} {i : Ids} {T : Tb} (h : TbAt w i T) (v f : Int) {l : Ls} {c : Bool} (hl : (T.h (v, f)).getD noL = l) (hc : (T.h (v, f)).isSome = c) : Calls Try.prog 19 #[i.ptr, .int .i64 v, .int .i64 f] w fun e w' =>
    e = .returned (.tuple #[lv l, .bool c]) ∧ Below w.heap.size w w' := by
  obtain ⟨c0, c1, c2, c3, c4, c5, -, -, -, -, -, -, cl⟩ := h.box.lay6
  have HM := Lib.hid h.mh
  have HL := Lib.hid hl
  have HC := Lib.hid hc
  clear h hl hc
  go_enter Try.func19, Try.ntmps19
  go_wp2_with (first
    | (go_at_call 36; refine (view_any _ _).mono ?_; rintro e w1 ⟨rfl, rfl⟩)
    | (at_lookup; refine look_ls _ _ rfl rfl pair70 map65 rfl (v, f) rfl (HM.out.below (below_alloc _ _)) HL.out HC.out ?_))
  exact bodyPost_ret (v := .tuple #[lv l, .bool c]) (by simp [results, Try.results19, go_sem]) rfl ⟨rfl, ((Below.refl _ _).alloc (Nat.le_refl _) _).alloc (by simp) _⟩

set_option maxHeartbeats 400000 in
theorem target_as {w : World} {i : Ids} {T : Tb} (h : TbAt w i T) (v f : Int) {l : Ls} {c : Bool} (hl : (T.m (v, f)).getD noL = l) (hc : (T.m (v, f)).isSome = c) : Calls Try.prog 40 #[i.ptr, .int .i64 v, .int .i64 f] w fun e w' =>
    e = .returned (.tuple #[lv l, .bool c]) ∧ Below w.heap.size w w' := by
  obtain ⟨c0, c1, c2, c3, c4, c5, -, -, -, -, -, -, cl⟩ := h.box.lay6
  have HM := Lib.hid h.mm
  have HL := Lib.hid hl
  have HC := Lib.hid hc
  clear h hl hc
  go_enter Try.func40, Try.ntmps40
  go_wp2_with (first
    | (go_at_call 36; refine (view_any _ _).mono ?_; rintro e w1 ⟨rfl, rfl⟩)
    | (at_lookup; refine look_ls _ _ rfl rfl pair70 map65 rfl (v, f) rfl (HM.out.below (below_alloc _ _)) HL.out HC.out ?_))
  exact bodyPost_ret (v := .tuple #[lv l, .bool c]) (by simp [results, Try.results40, go_sem]) rfl ⟨rfl, ((Below.refl _ _).alloc (Nat.le_refl _) _).alloc (by simp) _⟩

set_option maxHeartbeats 400000 in
theorem at_as {w : World} {i : Ids} {T : Tb} (h : TbAt w i T) (d x : Int) {l : Ls} {c : Bool} (hl : (T.u (d, x)).getD noL = l) (hc : (T.u (d, x)).isSome = c) : Calls Try.prog 25 #[i.ptr, .int .i64 d, .int .i64 x] w fun e w' =>
    e = .returned (.tuple #[lv l, .bool c]) ∧ Below w.heap.size w w' := by
  obtain ⟨c0, c1, c2, c3, c4, c5, -, -, -, -, -, -, cl⟩ := h.box.lay6
  have HM := Lib.hid h.mu
  have HL := Lib.hid hl
  have HC := Lib.hid hc
  clear h hl hc
  go_enter Try.func25, Try.ntmps25
  go_wp2_with (first
    | (go_at_call 36; refine (view_any _ _).mono ?_; rintro e w1 ⟨rfl, rfl⟩)
    | (at_lookup; refine look_ls _ _ rfl rfl pair72 map66 rfl (d, x) rfl (HM.out.below (below_alloc _ _)) HL.out HC.out ?_))
  exact bodyPost_ret (v := .tuple #[lv l, .bool c]) (by simp [results, Try.results25, go_sem]) rfl ⟨rfl, ((Below.refl _ _).alloc (Nat.le_refl _) _).alloc (by simp) _⟩

def fragB (v f : Int) : Bool := decide (0 ≤ v ∧ v < 12 ∧ 0 ≤ f ∧ f < 8)
def extB (d x : Int) : Bool := decide (0 ≤ d ∧ d < 24 ∧ 0 ≤ x ∧ x < 16)

theorem frag_any (v f : Int) (w : World) : Calls Try.prog 41 #[.int .i64 v, .int .i64 f] w fun e w' => e = .returned (.bool (fragB v f)) ∧ w = w' := by
  unfold fragB
  by_cases a : 0 ≤ v <;> by_cases b : v < 12 <;> by_cases c : 0 ≤ f <;> by_cases d : f < 8
  all_goals
    go_enter Try.func41, Try.ntmps41
    go_wp2
    go_ret
    exact ⟨by simp [a, b, c, d], rfl⟩
theorem ext_any (v f : Int) (w : World) : Calls Try.prog 42 #[.int .i64 v, .int .i64 f] w fun e w' => e = .returned (.bool (extB v f)) ∧ w = w' := by
  unfold extB
  by_cases a : 0 ≤ v <;> by_cases b : v < 24 <;> by_cases c : 0 ≤ f <;> by_cases d : f < 16
  all_goals
    go_enter Try.func42, Try.ntmps42
    go_wp2
    go_ret
    exact ⟨by simp [a, b, c, d], rfl⟩
end Go.Proofs.Ytnhpjmjinchamaa
