/- The table's other methods at the nil pointer. -/
import Derived.Test.YtnhpjmjinchamaaNa
import Derived.Test.YtnhpjmjinchamaaTh
set_option linter.unusedVariables false
set_option linter.unusedSimpArgs false
set_option linter.unnecessarySimpa false
namespace Go.Proofs.Ytnhpjmjinchamaa
open Go Go.RowKit Go.MapKept Go.ChangeMaps

theorem clone_nil (w : World) : Calls Try.prog 32 #[nilT] w fun e w' => e = .returned nilT ∧ Below w.heap.size w w' := by
  go_enter Try.func32, Try.ntmps32
  go_wp2
  go_ret
  exact ⟨rfl, Below.refl _ _⟩
theorem ver_nil (w : World) : Calls Try.prog 13 #[nilT] w fun e w' => e = .returned (.tuple #[.int .i64 0, .int .i64 109]) ∧ Below w.heap.size w w' := by
  go_enter Try.func13, Try.ntmps13
  go_wp2_with (first
    | (go_at_call 14; (with_reducible refine (term_nil _).mono ?_); rintro e w1 ⟨rfl, hb⟩; have HB := Lib.hid hb; clear hb))
  go_ret2
  exact ⟨rfl, HB.out⟩
/-- what Advance of nil answers -/
def advN (t : Int) : Int := if t < 0 ∨ 1048575 < t then 5 else if t ≤ 0 then 109 else 110
theorem adv_nil (t : Int) (w : World) : Calls Try.prog 12 #[nilT, .int .i64 t] w fun e w' => e = .returned (.int .i64 (advN t)) ∧ Below w.heap.size w w' := by
  obtain ⟨n, hn⟩ : ∃ n, advN t = n := ⟨_, rfl⟩
  rw [hn]
  unfold advN at hn
  have hc : (t < 0 ∧ n = 5) ∨ (0 ≤ t ∧ 1048575 < t ∧ n = 5) ∨ (0 ≤ t ∧ t ≤ 1048575 ∧ t ≤ 0 ∧ n = 109) ∨ (0 ≤ t ∧ t ≤ 1048575 ∧ ¬ t ≤ 0 ∧ n = 110) := by
    split at hn
    · omega
    · split at hn <;> omega
  clear hn
  rcases hc with ⟨h1, rfl⟩ | ⟨h1, h2, rfl⟩ | ⟨h1, h2, h3, rfl⟩ | ⟨h1, h2, h3, rfl⟩
  · go_enter Try.func12, Try.ntmps12
    go_wp2_with fail
    go_ret
    exact ⟨rfl, Below.refl _ _⟩
  · have g1 : ¬ t < 0 := by omega
    clear h1
    go_enter Try.func12, Try.ntmps12
    go_wp2_with fail
    go_ret
    exact ⟨rfl, Below.refl _ _⟩
  all_goals
    have g1 : ¬ t < 0 := by omega
    have g2 : ¬ 1048575 < t := by omega
    clear h1 h2
    go_enter Try.func12, Try.ntmps12
    go_wp2_with (first
      | (go_at_call 14; (with_reducible refine (term_nil _).mono ?_); rintro e w1 ⟨rfl, hb⟩; have HB := Lib.hid hb; clear hb))
    go_ret
    exact ⟨rfl, HB.out⟩
/-- what Place and Grant of nil answer -/
def plN (v f d x : Int) : Int := if fragB v f && extB d x then 110 else 5
theorem plN_cases (v f d x : Int) {n : Int} (hn : plN v f d x = n) : (fragB v f = false ∧ n = 5) ∨ (fragB v f = true ∧ extB d x = false ∧ n = 5) ∨ (fragB v f = true ∧ extB d x = true ∧ n = 110) := by
  unfold plN at hn
  cases h1 : fragB v f <;> cases h2 : extB d x <;> simp [h1, h2] at hn <;> simp [hn]
set_option maxRecDepth 20000 in
theorem place_nil (v f d x : Int) {n : Int} (hn : plN v f d x = n) (w : World) : Calls Try.prog 23 #[nilT, .int .i64 v, .int .i64 f, .int .i64 d, .int .i64 x] w fun e w' => e = .returned (.tuple #[.int .i64 0, .int .i64 n]) ∧ Below w.heap.size w w' := by
  rcases plN_cases v f d x hn with ⟨h1, rfl⟩ | ⟨h1, h2, rfl⟩ | ⟨h1, h2, rfl⟩
  · clear hn
    have H1 := Lib.hid h1
    clear h1
    go_enter Try.func23, Try.ntmps23
    go_wp2_with (go_at_call 41; (with_reducible refine (frag_as H1.out _).mono ?_); rintro e w1 ⟨rfl, rfl⟩)
    go_ret2
    exact ⟨rfl, Below.refl _ _⟩
  · clear hn
    have H1 := Lib.hid h1
    have H2 := Lib.hid h2
    clear h1 h2
    go_enter Try.func23, Try.ntmps23
    go_wp2_with (first
      | (go_at_call 41; (with_reducible refine (frag_as H1.out _).mono ?_); rintro e w1 ⟨rfl, rfl⟩)
      | (go_at_call 42; (with_reducible refine (ext_as H2.out _).mono ?_); rintro e w1 ⟨rfl, rfl⟩))
    go_ret2
    exact ⟨rfl, Below.refl _ _⟩
  · clear hn
    have H1 := Lib.hid h1
    have H2 := Lib.hid h2
    clear h1 h2
    go_enter Try.func23, Try.ntmps23
    go_wp2_with (first
      | (go_at_call 41; (with_reducible refine (frag_as H1.out _).mono ?_); rintro e w1 ⟨rfl, rfl⟩)
      | (go_at_call 42; (with_reducible refine (ext_as H2.out _).mono ?_); rintro e w1 ⟨rfl, rfl⟩)
      | (go_at_call 19; (with_reducible refine (home_nil _ _ _).mono ?_); rintro e w1 ⟨rfl, hb⟩; have HB := Lib.hid (hb.alloc hb.size (.cells (lc noL) 46)); clear hb)
      | (go_at_call 25; (with_reducible refine (at_nil _ _ _).mono ?_); rintro e w2 ⟨rfl, hb⟩; have HB2 := Lib.hid (HB.out.trans (hb.mono HB.out.size)); clear hb))
    go_ret2
    exact ⟨rfl, HB2.out.alloc HB2.out.size _⟩
end Go.Proofs.Ytnhpjmjinchamaa
