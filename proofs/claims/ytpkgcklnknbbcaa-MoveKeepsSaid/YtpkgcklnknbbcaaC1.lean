/- The plain laws of a state of a move: what one action does. -/
import Derived.Test.YtpkgcklnknbbcaaB1
set_option linter.unusedVariables false
set_option linter.unusedSimpArgs false
set_option linter.unnecessarySimpa false
namespace Go.Proofs.Ytpkgcklnknbbcaa
open Go.RowKit

theorem near_valid (p s v : Int) (d : Bool) : ∃ p' s' v', nearF p s v d = (p', s', v', d) ∧ validB p' s' v' = true := by
  refine ⟨_, _, _, rfl, ?_⟩
  have h1 : 1 ≤ 1 + s % 4 := by omega
  have h4 : 1 + s % 4 ≤ 4 := by omega
  generalize 1 + s % 4 = n at *
  have e1 : 0 ≤ v % allOf n := Int.emod_nonneg _ (by have := allOf_ge h1 h4; omega)
  have e2 : v % allOf n < allOf n := Int.emod_lt_of_pos _ (by have := allOf_ge h1 h4; omega)
  have e3 : 0 ≤ v % (allOf n + 1) := Int.emod_nonneg _ (by have := allOf_ge h1 h4; omega)
  have e4 : v % (allOf n + 1) < allOf n + 1 := Int.emod_lt_of_pos _ (by have := allOf_ge h1 h4; omega)
  have e5 := allOf_ge h1 h4
  unfold validB
  by_cases g1 : 1 + p % 5 = 1
  · simp [g1, h1, h4, e1]; omega
  · by_cases g5 : 1 + p % 5 = 5
    · simp [g5, h1, h4, e3]; omega
    · have : 1 + p % 5 = 2 ∨ 1 + p % 5 = 3 ∨ 1 + p % 5 = 4 := by omega
      simp [g1, g5, h1, h4, this]; omega

theorem near_as {p s v : Int} {d : Bool} {p' s' v' : Int} (h : nearF p s v d = (p', s', v', d)) (w : World) (hp : -9223372036854775808 ≤ p ∧ p ≤ 9223372036854775807) (hs : -9223372036854775808 ≤ s ∧ s ≤ 9223372036854775807) (hv : -9223372036854775808 ≤ v ∧ v ≤ 9223372036854775807) :
    Calls Try.prog 15 #[.agg #[.int .i64 p, .int .i64 s, .int .i64 v, .bool d]] w fun e w' => e = .returned (.agg #[.int .i64 p', .int .i64 s', .int .i64 v', .bool d]) ∧ Below w.heap.size w w' := by
  have := near_any p s v d w hp.1 hp.2 hs.1 hs.2 hv.1 hv.2
  rw [h] at this
  exact this

theorem valid_i64 {p s v : Int} (h : validB p s v = true) : -9223372036854775808 ≤ v ∧ v ≤ 9223372036854775807 := by
  obtain ⟨b1, b4, b2, b3⟩ := valid_bounds h
  have := allOf_le b1 b4
  omega

theorem work_as {p s v n : Int} (h : workF p s v = n) (hk : validB p s v = true) (d : Bool) (w : World) :
    Calls Try.prog 21 #[.agg #[.int .i64 p, .int .i64 s, .int .i64 v, .bool d]] w fun e w' => e = .returned (.int .i64 n) ∧ Below w.heap.size w w' := by
  have := work_any p s v d w (valid_i64 hk).1 (valid_i64 hk).2
  rw [h] at this
  exact this
theorem next_as {p s v : Int} {d : Bool} {k t : Int} (h : nextF p s v d = (k, t)) (hk : validB p s v = true) (w : World) :
    Calls Try.prog 19 #[.agg #[.int .i64 p, .int .i64 s, .int .i64 v, .bool d]] w fun e w' => e = .returned (.agg #[.int .i64 k, .int .i64 t]) ∧ Below w.heap.size w w' := by
  have := next_any p s v d w (valid_i64 hk).1 (valid_i64 hk).2
  rw [h] at this
  exact this

theorem work_bd {p s v : Int} (h : validB p s v = true) : 0 ≤ workF p s v ∧ workF p s v ≤ s + 2 := by
  obtain ⟨b1, b4, b2, b3⟩ := valid_bounds h
  have y0 := bitI_bd v 0
  have y1 := bitI_bd v 1
  have y2 := bitI_bd v 2
  have y3 := bitI_bd v 3
  unfold workF
  rw [h]
  simp only [Bool.true_eq_false, if_false]
  (repeat' split) <;> omega
theorem work_zero {p s v : Int} (h : validB p s v = true) (h0 : workF p s v = 0) : (p = 4 ∨ p = 5) ∧ ∀ d, nextF p s v d = (0, 0) := by
  obtain ⟨b1, b4, b2, b3⟩ := valid_bounds h
  have hp := valid_phase h
  have y0 := bitI_bd v 0
  have y1 := bitI_bd v 1
  have y2 := bitI_bd v 2
  have y3 := bitI_bd v 3
  unfold workF at h0
  rw [h] at h0
  simp only [Bool.true_eq_false, if_false] at h0
  have h45 : p = 4 ∨ p = 5 := by
    by_cases g1 : p = 1
    · rw [if_pos g1] at h0
      repeat' split at h0
      all_goals omega
    · by_cases g2 : p = 2
      · rw [if_neg g1, if_pos g2] at h0; omega
      · by_cases g3 : p = 3
        · rw [if_neg g1, if_neg g2, if_pos g3] at h0; omega
        · omega
  refine ⟨h45, fun d => ?_⟩
  unfold nextF
  rw [h]
  simp only [Bool.true_eq_false, if_false]
  rw [if_neg (by omega), if_neg (by omega), if_neg (by omega)]

theorem copy_small : ∀ (s : Fin 5) (v : Fin 15), 1 ≤ s.val → (v.val : Int) < allOf s.val →
    (0 ≤ firstClear v.val ∧ firstClear v.val < s.val) ∧ (workF (if orBit v.val (firstClear v.val) = allOf s.val then 2 else 1) s.val (orBit v.val (firstClear v.val)) = workF 1 s.val v.val - 1) := by decide +kernel
theorem copy_step {s v : Int} (h : validB 1 s v = true) : (0 ≤ firstClear v ∧ firstClear v < s) ∧ (workF (if orBit v (firstClear v) = allOf s then 2 else 1) s (orBit v (firstClear v)) = workF 1 s v - 1) := by
  obtain ⟨b1, b4, b2, b3⟩ := valid_bounds h
  have h15 := allOf_le b1 b4
  have hlt : v < allOf s := by have := valid_phase h; omega
  have := copy_small ⟨s.toNat, by omega⟩ ⟨v.toNat, by omega⟩ (by show 1 ≤ s.toNat; omega) (by show ((v.toNat : Nat) : Int) < allOf ((s.toNat : Nat) : Int); rw [Int.toNat_of_nonneg b2, Int.toNat_of_nonneg (show 0 ≤ s by omega)]; exact hlt)
  simpa only [Int.toNat_of_nonneg b2, Int.toNat_of_nonneg (show 0 ≤ s by omega)] using this

/-- an action that succeeds lowers Work by one -/
theorem act_step {p s v : Int} {d : Bool} (h : validB p s v = true) (hw : 0 < workF p s v) :
    (∃ k t p' v', p = 1 ∧ (k = 1 ∨ k = 2) ∧ nextF p s v d = (k, t) ∧ applyF p s v d 1 t = ((p', s, v', d), 0) ∧ validB p' s v' = true ∧ workF p' s v' = workF p s v - 1) ∨
    (p = 2 ∧ nextF p s v d = (3, 0) ∧ applyF p s v d 6 0 = ((3, s, v, d), 0) ∧ validB 3 s v = true ∧ workF 3 s v = workF p s v - 1) ∨
    (p = 3 ∧ nextF p s v d = (4, 0) ∧ applyF p s v d 7 0 = ((4, s, v, d), 0) ∧ validB 4 s v = true ∧ workF 4 s v = workF p s v - 1) := by
  obtain ⟨b1, b4, b2, b3⟩ := valid_bounds h
  have hp := valid_phase h
  have hp' : p = 1 ∨ p = 2 ∨ p = 3 := by
    unfold workF at hw
    rw [h] at hw
    simp only [Bool.true_eq_false, if_false] at hw
    by_cases g1 : p = 1
    · exact .inl g1
    · by_cases g2 : p = 2
      · exact .inr (.inl g2)
      · by_cases g3 : p = 3
        · exact .inr (.inr g3)
        · rw [if_neg g1, if_neg g2, if_neg g3] at hw; omega
  rcases hp' with rfl | rfl | rfl
  · obtain ⟨⟨f0, f1⟩, f2⟩ := copy_step h
    have ha : applyF 1 s v d 1 (firstClear v) = ((if orBit v (firstClear v) = allOf s then 2 else 1, s, orBit v (firstClear v), d), 0) := by
      have n1 : ¬ firstClear v < 0 := by omega
      have n2 : ¬ s ≤ firstClear v := by omega
      simp [applyF, h, n1, n2]
    exact .inl ⟨if d then 1 else 2, firstClear v, _, _, rfl, by cases d <;> simp, by simp [nextF, h], ha, applyF_valid ha, f2⟩
  · have ha : applyF 2 s v d 6 0 = ((3, s, v, d), 0) := by simp [applyF, h]
    refine .inr (.inl ⟨rfl, by simp [nextF, h], ha, applyF_valid ha, ?_⟩)
    simp [workF, h, applyF_valid ha]
  · have ha : applyF 3 s v d 7 0 = ((4, s, v, d), 0) := by simp [applyF, h]
    refine .inr (.inr ⟨rfl, by simp [nextF, h], ha, applyF_valid ha, ?_⟩)
    simp [workF, h, applyF_valid ha]

theorem home_step {p s v : Int} {d : Bool} (h : validB p s v = true) (hp : p = 1 ∨ p = 2 ∨ p = 3) : applyF p s v d 3 0 = ((p, s, v, false), 0) ∧ applyF p s v d 4 0 = ((p, s, v, true), 0) := by
  rcases hp with rfl | rfl | rfl <;> simp [applyF, h]
theorem work_pos {p s v : Int} (h : validB p s v = true) (hw : 0 < workF p s v) : p = 1 ∨ p = 2 ∨ p = 3 := by
  rcases act_step (d := false) h hw with ⟨_, _, _, _, h, _⟩ | ⟨h, _⟩ | ⟨h, _⟩ <;> omega
end Go.Proofs.Ytpkgcklnknbbcaa
