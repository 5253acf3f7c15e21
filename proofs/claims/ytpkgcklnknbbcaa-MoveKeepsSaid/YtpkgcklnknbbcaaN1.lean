/- The walks of Begin and of the reference's Begin. -/
import Derived.Test.YtpkgcklnknbbcaaM8
set_option linter.unusedVariables false
set_option linter.unusedSimpArgs false
set_option linter.unnecessarySimpa false
namespace Go.Proofs.Ytpkgcklnknbbcaa
open Go.RowKit

def beginF (s : Int) (d : Bool) : St × Int := if s < 1 ∨ 4 < s then (zeroS, 5) else ((1, s, 0, d), 0)

set_option maxHeartbeats 1000000 in
theorem begin_any (s : Int) (d : Bool) (w : World) : Calls Try.prog 10 #[.int .i64 s, .bool d] w (RetA (beginF s d) w) := by
  have hc : s < 1 ∨ (1 ≤ s ∧ 4 < s) ∨ (1 ≤ s ∧ s ≤ 4) := by omega
  rcases hc with hc | hc | hc
  all_goals
    first
      | (have hv := Lib.hid (show (zeroS, 5) = beginF s d by unfold beginF; rw [if_pos]; omega))
      | (have hv := Lib.hid (show ((1, s, 0, d), 0) = beginF s d by unfold beginF; rw [if_neg]; omega))
    generalize beginF s d = x at hv
    first
      | (have h1 : decide (s < 1) = true := by simp; omega)
      | (have h1 : decide (s < 1) = false := by simp; omega
         have h2 : decide (4 < s) = true := by simp; omega)
      | (have h1 : decide (s < 1) = false := by simp; omega
         have h2 : decide (4 < s) = false := by simp; omega)
    clear hc
    go_enter Try.func10, Try.ntmps10
    go_wp2_with fail
    refine bodyPost_ret (v := .tuple #[stV x.1, .int .i64 x.2]) ?_ rfl ⟨rfl, ?_⟩
    · rw [← hv.out]; simp [results, Try.f10, go_sem, stV, zeroS]
    · exact below_of_allocs _

set_option maxHeartbeats 1000000 in
theorem refBegin_any (s : Int) (d : Bool) (w : World) : Calls Try.prog 11 #[.int .i64 s, .bool d] w (RetA (beginF s d) w) := by
  have hc : s < 1 ∨ (1 ≤ s ∧ 4 < s) ∨ (1 ≤ s ∧ s ≤ 4) := by omega
  rcases hc with hc | hc | hc
  all_goals
    first
      | (have hv := Lib.hid (show (zeroS, 5) = beginF s d by unfold beginF; rw [if_pos]; omega))
      | (have hv := Lib.hid (show ((1, s, 0, d), 0) = beginF s d by unfold beginF; rw [if_neg]; omega))
    generalize beginF s d = x at hv
    first
      | (have h1 : decide (s < 1) = true := by simp; omega)
      | (have h1 : decide (s < 1) = false := by simp; omega
         have h2 : decide (4 < s) = true := by simp; omega)
      | (have h1 : decide (s < 1) = false := by simp; omega
         have h2 : decide (4 < s) = false := by simp; omega)
    clear hc
    go_enter Try.func11, Try.ntmps11
    go_wp2_with fail
    refine bodyPost_ret (v := .tuple #[stV x.1, .int .i64 x.2]) ?_ rfl ⟨rfl, ?_⟩
    · rw [← hv.out]; simp [results, Try.f11, go_sem, stV, zeroS]
    · exact below_of_allocs _

end Go.Proofs.Ytpkgcklnknbbcaa
