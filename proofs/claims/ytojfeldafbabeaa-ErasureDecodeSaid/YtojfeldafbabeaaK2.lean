/- The walks of Coefficient and the reference's Coefficient. -/
import Derived.Test.YtojfeldafbabeaaK1
set_option linter.unusedVariables false
set_option linter.unusedSimpArgs false
set_option linter.unnecessarySimpa false
namespace Go.Proofs.Ytojfeldafbabeaa
open Go.RowKit

def coefI (j i : Int) : Nat := if 0 ≤ j ∧ j < 64 ∧ 0 ≤ i ∧ i < 64 then GF.inv ((128 + j.toNat) ^^^ i.toNat) else 0
theorem coefI_lt (j i : Int) : coefI j i < 256 := by
  unfold coefI
  split
  · exact GF.inv_lt _
  · decide

theorem xor_small : ∀ (j i : Fin 64), bits .xor .u8 (128 + (j.val : Int)) (i.val : Int) = (((128 + j.val) ^^^ i.val : Nat) : Int) ∧ (128 + j.val) ^^^ i.val ≠ 0 ∧ (128 + j.val) ^^^ i.val < 256 := by decide +kernel
theorem xor_at {j i : Int} (j0 : 0 ≤ j) (j1 : j < 64) (i0 : 0 ≤ i) (i1 : i < 64) : bits .xor .u8 (128 + j) i = (((128 + j.toNat) ^^^ i.toNat : Nat) : Int) ∧ (128 + j.toNat) ^^^ i.toNat ≠ 0 ∧ (128 + j.toNat) ^^^ i.toNat < 256 := by
  have := xor_small ⟨j.toNat, by omega⟩ ⟨i.toNat, by omega⟩
  simpa only [Int.toNat_of_nonneg j0, Int.toNat_of_nonneg i0] using this

theorem coef_cases (j i : Int) : (decide (j < 0) = true ∧ coefI j i = 0) ∨ (decide (j < 0) = false ∧ decide (64 ≤ j) = true ∧ decide (63 < j) = true ∧ coefI j i = 0) ∨
    (decide (j < 0) = false ∧ decide (64 ≤ j) = false ∧ decide (63 < j) = false ∧ decide (i < 0) = true ∧ coefI j i = 0) ∨
    (decide (j < 0) = false ∧ decide (64 ≤ j) = false ∧ decide (63 < j) = false ∧ decide (i < 0) = false ∧ decide (64 ≤ i) = true ∧ decide (63 < i) = true ∧ coefI j i = 0) ∨
    (decide (j < 0) = false ∧ decide (64 ≤ j) = false ∧ decide (63 < j) = false ∧ decide (i < 0) = false ∧ decide (64 ≤ i) = false ∧ decide (63 < i) = false ∧ 0 ≤ j ∧ j < 64 ∧ 0 ≤ i ∧ i < 64 ∧ coefI j i = GF.inv ((128 + j.toNat) ^^^ i.toNat)) := by
  by_cases h1 : j < 0
  · left; exact ⟨by simpa using h1, if_neg (by omega)⟩
  by_cases h2 : 64 ≤ j
  · right; left; exact ⟨by simpa using h1, by simpa using h2, by simp; omega, if_neg (by omega)⟩
  by_cases h3 : i < 0
  · right; right; left; exact ⟨by simpa using h1, by simpa using h2, by simp; omega, by simpa using h3, if_neg (by omega)⟩
  by_cases h4 : 64 ≤ i
  · right; right; right; left; exact ⟨by simpa using h1, by simpa using h2, by simp; omega, by simpa using h3, by simpa using h4, by simp; omega, if_neg (by omega)⟩
  · right; right; right; right; exact ⟨by simpa using h1, by simpa using h2, by simp; omega, by simpa using h3, by simpa using h4, by simp; omega, by omega, by omega, by omega, by omega, if_pos (by omega)⟩

set_option maxHeartbeats 1000000 in
theorem coef_any (j i : Int) (w : World) : Calls Try.prog 16 #[.int .i64 j, .int .i64 i] w fun e w' => e = .returned (.int .u8 ((coefI j i : Nat) : Int)) ∧ w = w' := by
  have hc := coef_cases j i
  generalize coefI j i = c at *
  rcases hc with ⟨h1, rfl⟩ | ⟨h1, h2, h3, rfl⟩ | ⟨h1, h2, h3, h4, rfl⟩ | ⟨h1, h2, h3, h4, h5, h6, rfl⟩ | ⟨h1, h2, h3, h4, h5, h6, j0, j1, i0, i1, rfl⟩
  rotate_left 4
  · obtain ⟨hx, hn, hl⟩ := xor_at j0 j1 i0 i1
    generalize (128 + j.toNat) ^^^ i.toNat = q at *
    have HN := Lib.hid hn
    clear hn
    go_enter Try.func16, Try.ntmps16
    go_wp2_with (go_at_call 36; refine (inv_nz _ _ hl HN.out).mono ?_; rintro e w' ⟨rfl, rfl⟩)
    go_ret
    exact ⟨rfl, rfl⟩
  all_goals
    go_enter Try.func16, Try.ntmps16
    go_wp2_with fail
    go_ret
    exact ⟨rfl, rfl⟩

set_option maxHeartbeats 1000000 in
theorem refCoef_any (j i : Int) (w : World) : Calls Try.prog 17 #[.int .i64 j, .int .i64 i] w fun e w' => e = .returned (.int .u8 ((coefI j i : Nat) : Int)) ∧ w = w' := by
  have hc := coef_cases j i
  generalize coefI j i = c at *
  rcases hc with ⟨h1, rfl⟩ | ⟨h1, h2, h3, rfl⟩ | ⟨h1, h2, h3, h4, rfl⟩ | ⟨h1, h2, h3, h4, h5, h6, rfl⟩ | ⟨h1, h2, h3, h4, h5, h6, j0, j1, i0, i1, rfl⟩
  rotate_left 4
  · obtain ⟨hx, hn, hl⟩ := xor_at j0 j1 i0 i1
    generalize (128 + j.toNat) ^^^ i.toNat = q at *
    have HN := Lib.hid hn
    clear hn
    go_enter Try.func17, Try.ntmps17
    go_wp2_with (go_at_call 37; refine (refInv_nz _ _ hl HN.out).mono ?_; rintro e w' ⟨rfl, rfl⟩)
    go_ret
    exact ⟨rfl, rfl⟩
  all_goals
    go_enter Try.func17, Try.ntmps17
    go_wp2_with fail
    go_ret
    exact ⟨rfl, rfl⟩

end Go.Proofs.Ytojfeldafbabeaa
