/- The walks of the small functions of a move's step machine: the set of all stripes, Within, Valid, Begin. -/
import Derived.Test.YtpkgcklnknbbcaaRows
import Derived.WalkKit
import Derived.Lib.Hide
import Derived.WalkSpells
import Derived.WalkLawsBesides
import Derived.Deep.RegionWith
import Derived.Deep.DeepCutAuto
set_option linter.unusedVariables false
set_option linter.unusedSimpArgs false
set_option linter.unnecessarySimpa false
namespace Go.Proofs.Ytpkgcklnknbbcaa
open Go.RowKit

/-- the set of all stripes -/
def allOf (s : Int) : Int := 2 ^ s.toNat - 1

def RetInt (r : Int) (w : World) (e : Ending) (w' : World) : Prop := e = .returned (.int .i64 r) ∧ Below w.heap.size w w'

theorem below_of_allocs {w : World} (o : Obj) : Below w.heap.size w (w.alloc o) := (Below.refl _ _).alloc (Nat.le_refl _) _

set_option maxHeartbeats 1000000 in
theorem all_any (p s v : Int) (d : Bool) (w : World) (h1 : 1 ≤ s) (h4 : s ≤ 4) :
    Calls Try.prog 26 #[.agg #[.int .i64 p, .int .i64 s, .int .i64 v, .bool d]] w (RetInt (allOf s) w) := by
  have hs : s = 1 ∨ s = 2 ∨ s = 3 ∨ s = 4 := by omega
  rcases hs with rfl | rfl | rfl | rfl
  all_goals
    go_enter Try.func26, Try.ntmps26
    go_wp2
    go_ret
    exact ⟨rfl, below_of_allocs _⟩

set_option maxHeartbeats 1000000 in
theorem refAll_any (s : Int) (w : World) (h1 : 1 ≤ s) (h4 : s ≤ 4) :
    Calls Try.prog 25 #[.int .i64 s] w fun e w' => e = .returned (.int .i64 (allOf s)) ∧ w = w' := by
  have hs : s = 1 ∨ s = 2 ∨ s = 3 ∨ s = 4 := by omega
  rcases hs with rfl | rfl | rfl | rfl
  all_goals
    go_enter Try.func25, Try.ntmps25
    go_wp2
    go_ret
    exact ⟨rfl, rfl⟩

/-- Within, for n of at least 1 -/
theorem tmod_emod (x n : Int) (h : 1 ≤ n) : (if x.tmod n < 0 then x.tmod n + n else x.tmod n) = x % n := by
  have h0 : 0 ≤ x % n := Int.emod_nonneg _ (by omega)
  have h1 : x % n < n := Int.emod_lt_of_pos _ (by omega)
  rcases Int.lt_or_le x 0 with hx | hx
  · have e : x.tmod n = -((-x) % n) := by
      have := Int.neg_tmod (-x) n
      rw [Int.neg_neg] at this
      rw [this, Int.tmod_eq_emod_of_nonneg (by omega)]
    rw [e]
    have g0 : 0 ≤ (-x) % n := Int.emod_nonneg _ (by omega)
    have g1 : (-x) % n < n := Int.emod_lt_of_pos _ (by omega)
    have key : x % n = if (-x) % n = 0 then 0 else n - (-x) % n := by
      have hx1 : x = n * (-((-x) / n)) + -((-x) % n) := by
        have := Int.mul_ediv_add_emod (-x) n
        rw [Int.mul_neg]; omega
      split
      · rename_i h0
        rw [h0] at hx1
        rw [hx1, Int.neg_zero, Int.add_zero]; exact Int.mul_emod_right _ _
      · rename_i hne
        have hx2 : x = (n - (-x) % n) + n * (-((-x) / n) - 1) := by rw [Int.mul_sub]; omega
        rw [hx2, Int.add_mul_emod_self_left]
        have : (-(n - -x % n + n * (-(-x / n) - 1))) % n = (-x) % n := by rw [← hx2]
        rw [this]
        exact Int.emod_eq_of_lt (by omega) (by omega)
    rw [key]
    split
    · split <;> omega
    · split <;> omega
  · rw [Int.tmod_eq_emod_of_nonneg hx, if_neg (by omega)]

set_option maxHeartbeats 1000000 in
theorem within_any (x n : Int) (w : World) (hn : 1 ≤ n) (hn2 : n ≤ 9223372036854775807) (h1 : -9223372036854775808 ≤ x) (h2 : x ≤ 9223372036854775807) :
    Calls Try.prog 12 #[.int .i64 x, .int .i64 n] w fun e w' => e = .returned (.int .i64 (x % n)) ∧ w = w' := by
  have he := tmod_emod x n hn
  have hn0 : ¬ n < 1 := by omega
  by_cases hneg : x.tmod n < 0
  · rw [if_pos hneg] at he
    have hb : 0 ≤ x % n ∧ x % n < n := ⟨Int.emod_nonneg _ (by omega), Int.emod_lt_of_pos _ (by omega)⟩
    have hw : wrap64 (x.tmod n + n) = x % n := by rw [he]; exact IntWalk.wrap64_in _ (by omega)
    have HW := Lib.hid hw
    clear he hw
    go_enter Try.func12, Try.ntmps12
    go_wp2_with fail
    go_ret
    exact ⟨congrArg (fun z => Ending.returned (.int .i64 z)) HW.out, rfl⟩
  · rw [if_neg hneg] at he
    have HE := Lib.hid he
    clear he
    go_enter Try.func12, Try.ntmps12
    go_wp2_with fail
    go_ret
    exact ⟨congrArg (fun z => Ending.returned (.int .i64 z)) HE.out, rfl⟩

end Go.Proofs.Ytpkgcklnknbbcaa
