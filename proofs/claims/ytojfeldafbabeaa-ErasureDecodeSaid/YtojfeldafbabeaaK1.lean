/- The walks of code, Code, Coefficient and the reference's Coefficient. -/
import Derived.Test.YtojfeldafbabeaaC3
import Derived.Test.YtojfeldafbabeaaMat
set_option linter.unusedVariables false
set_option linter.unusedSimpArgs false
set_option linter.unnecessarySimpa false
namespace Go.Proofs.Ytojfeldafbabeaa
open Go.RowKit

def codeB (k m : Int) : Bool := decide (1 ≤ k) && decide (k ≤ 6) && decide (0 ≤ m) && decide (m ≤ 4) && decide (k + m ≤ 8)
theorem code_cases (k m : Int) : (decide (1 ≤ k) = false ∧ codeB k m = false) ∨ (decide (1 ≤ k) = true ∧ decide (k ≤ 6) = false ∧ codeB k m = false) ∨
    (decide (1 ≤ k) = true ∧ decide (k ≤ 6) = true ∧ decide (0 ≤ m) = false ∧ codeB k m = false) ∨ (decide (1 ≤ k) = true ∧ decide (k ≤ 6) = true ∧ decide (0 ≤ m) = true ∧ decide (m ≤ 4) = false ∧ codeB k m = false) ∨
    (decide (1 ≤ k) = true ∧ decide (k ≤ 6) = true ∧ decide (0 ≤ m) = true ∧ decide (m ≤ 4) = true ∧ wrap64 (k + m) = k + m ∧ decide (k + m ≤ 8) = codeB k m) := by
  unfold codeB
  by_cases h1 : 1 ≤ k
  · by_cases h2 : k ≤ 6
    · by_cases h3 : 0 ≤ m
      · by_cases h4 : m ≤ 4
        · right; right; right; right
          exact ⟨by simpa using h1, by simpa using h2, by simpa using h3, by simpa using h4, IntWalk.wrap64_in _ (by omega), by simp [h1, h2, h3, h4]⟩
        · right; right; right; left; simp [h1, h2, h3, h4]
      · right; right; left; simp [h1, h2, h3]
    · right; left; simp [h1, h2]
  · left; simp [h1]

set_option maxHeartbeats 1000000 in
theorem code_any (k m : Int) (w : World) : Calls Try.prog 30 #[.int .i64 k, .int .i64 m] w fun e w' => e = .returned (.bool (codeB k m)) ∧ w = w' := by
  have hc := code_cases k m
  generalize codeB k m = c at *
  rcases hc with ⟨h1, rfl⟩ | ⟨h1, h2, rfl⟩ | ⟨h1, h2, h3, rfl⟩ | ⟨h1, h2, h3, h4, rfl⟩ | ⟨h1, h2, h3, h4, h5, h6⟩
  all_goals
    go_enter Try.func30, Try.ntmps30
    go_wp2_with fail
    go_ret
    first | exact ⟨rfl, rfl⟩ | exact ⟨congrArg (fun b => Ending.returned (.bool b)) (by assumption), rfl⟩

set_option maxHeartbeats 1000000 in
theorem refCode_any (k m : Int) (w : World) : Calls Try.prog 33 #[.int .i64 k, .int .i64 m] w fun e w' => e = .returned (.bool (codeB k m)) ∧ w = w' := by
  have hc := code_cases k m
  generalize codeB k m = c at *
  rcases hc with ⟨h1, rfl⟩ | ⟨h1, h2, rfl⟩ | ⟨h1, h2, h3, rfl⟩ | ⟨h1, h2, h3, h4, rfl⟩ | ⟨h1, h2, h3, h4, h5, h6⟩
  all_goals
    go_enter Try.func33, Try.ntmps33
    go_wp2_with fail
    go_ret
    first | exact ⟨rfl, rfl⟩ | exact ⟨congrArg (fun b => Ending.returned (.bool b)) (by assumption), rfl⟩

end Go.Proofs.Ytojfeldafbabeaa
