/- What the reference answers at an empty table: the plain law of LeaseNil. -/
import Derived.Test.YtnhpjmjinchamaaNc
import Derived.Test.YtnhpjmjinchamaaPm
set_option linter.unusedVariables false
set_option linter.unusedSimpArgs false
set_option linter.unnecessarySimpa false
namespace Go.Proofs.Ytnhpjmjinchamaa
open Go

theorem findN_nil (p : Ls → Bool) : findN p [] = -1 := rfl
theorem rgrant_no (v f d x : Int) : rgrantF noR v f d x = ((0, plN v f d x), noR) := by
  unfold rgrantF plN
  cases fragB v f <;> cases extB d x <;> simp [noR, findN_nil]
theorem rcommit_no' (v f : Int) : rcommitF noR v f = ((noL, enN v f), noR) := by
  unfold rcommitF enN
  cases fragB v f <;> simp [noR, findN_nil]
theorem rplace_no (v f d x : Int) : ∃ a R', (rplaceF noR v f d x = ((a, 0), R') ∧ plN v f d x = 110) ∨ (rplaceF noR v f d x = ((a, 5), R') ∧ plN v f d x = 5) := by
  unfold rplaceF plN
  cases fragB v f <;> cases extB d x <;> simp [noR, findN_nil]
theorem radv_no (t : Int) : ∃ R', (radvF noR t = (0, R') ∧ advN t = 110) ∨ (radvF noR t = (5, R') ∧ advN t = 5) ∨ (radvF noR t = (109, R') ∧ advN t = 109) := by
  unfold radvF advN
  by_cases h : t < 0 ∨ 1048575 < t
  · simp [h]
  · by_cases h2 : t ≤ 0
    · simp [h, h2, noR]
    · simp [h, h2, noR]
end Go.Proofs.Ytnhpjmjinchamaa
