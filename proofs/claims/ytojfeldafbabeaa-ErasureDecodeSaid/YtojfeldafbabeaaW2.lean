/- More walks of the small functions of the field: inverse, quotient, power, logarithm, the program's and the reference's. -/
import Derived.Test.YtojfeldafbabeaaW1
set_option linter.unusedVariables false
set_option linter.unusedSimpArgs false
set_option linter.unnecessarySimpa false
namespace Go.Proofs.Ytojfeldafbabeaa
open Go.RowKit

set_option maxHeartbeats 400000 in
theorem inv_zero (w : World) :
    Calls Try.prog 36 #[.int .u8 0] w fun e w' => e = .returned (.tuple #[.int .u8 0, .int .i64 3]) ∧ w = w' := by
  go_enter Try.func36, Try.ntmps36
  go_wp2
  go_ret2
  exact ⟨rfl, rfl⟩

set_option maxHeartbeats 400000 in
theorem inv_nz (a : Nat) (w : World) (ha : a < 256) (h0 : a ≠ 0) :
    Calls Try.prog 36 #[.int .u8 a] w fun e w' => e = .returned (.tuple #[.int .u8 (GF.inv a), .int .i64 0]) ∧ w = w' := by
  have h1 : ((a : Int) == 0) = false := by rw [beq_eq_false_iff_ne]; omega
  go_enter Try.func36, Try.ntmps36
  go_wp2_with (go_at_call 43; refine (power_any _ 254 _ (by assumption) (by decide)).mono ?_; rintro e w' ⟨rfl, rfl⟩)
  go_ret2
  exact ⟨rfl, rfl⟩

theorem tmod255 (n : Int) : n.tmod 255 = if 0 ≤ n then n % 255 else -(-n % 255) := by
  split
  · exact Int.tmod_eq_emod_of_nonneg (by assumption)
  · have := Int.neg_tmod (-n) 255
    rw [Int.neg_neg] at this
    rw [this, Int.tmod_eq_emod_of_nonneg (by omega)]
theorem pow_exp (n : Int) (h1 : -9223372036854775808 ≤ n) (h2 : n ≤ 9223372036854775807) : (wrap64 (n.tmod 255 + 255)).tmod 255 = (((n % 255).toNat : Nat) : Int) := by
  rw [tmod255 n]
  split
  · rw [IntWalk.wrap64_in _ (by omega), Int.tmod_eq_emod_of_nonneg (by omega)]; omega
  · rw [IntWalk.wrap64_in _ (by omega), Int.tmod_eq_emod_of_nonneg (by omega)]; omega
theorem pow_exp1 (n : Int) (h1 : -9223372036854775808 ≤ n) (h2 : n ≤ 9223372036854775807) (h : n.tmod 255 < 0) : wrap64 (n.tmod 255 + 255) = n % 255 := by
  rw [tmod255 n] at h ⊢
  split at h
  · omega
  · rename_i hn; rw [if_neg hn, IntWalk.wrap64_in _ (by omega)]; omega
theorem pow_exp2 (n : Int) (h : 0 ≤ n.tmod 255) : n.tmod 255 = n % 255 := by
  rw [tmod255 n] at h ⊢
  split at h
  · rename_i hn; rw [if_pos hn]
  · rename_i hn; rw [if_neg hn]; omega

set_option maxHeartbeats 400000 in
theorem refPow_any (a : Nat) (n : Int) (w : World) (ha : a < 256) (h1 : -9223372036854775808 ≤ n) (h2 : n ≤ 9223372036854775807) :
    Calls Try.prog 44 #[.int .u8 a, .int .i64 n] w fun e w' => e = .returned (.int .u8 (GF.pwI a n)) ∧ w = w' := by
  by_cases hn : n = 0
  · subst hn
    go_enter Try.func44, Try.ntmps44
    go_wp2
    go_ret
    exact ⟨rfl, rfl⟩
  · have hn1 : (n == 0) = false := by rw [beq_eq_false_iff_ne]; exact hn
    have hn' := Lib.hid hn
    clear hn
    by_cases h0 : a = 0
    · subst h0
      go_enter Try.func44, Try.ntmps44
      go_wp2
      go_ret
      exact ⟨ret_u8 (by unfold GF.pwI; rw [if_neg hn'.out, if_pos rfl]; rfl), rfl⟩
    · have h01 : ((a : Int) == 0) = false := by rw [beq_eq_false_iff_ne]; omega
      have h0' := Lib.hid h0
      clear h0
      obtain ⟨m, hm⟩ : ∃ m : Nat, n % 255 = m := ⟨(n % 255).toNat, by omega⟩
      have hm' := Lib.hid hm
      have hm2 : (m : Int) < 255 := by omega
      clear hm
      have key : Calls Try.prog 44 #[.int .u8 a, .int .i64 n] w fun e w' => e = .returned (.int .u8 (GF.pw a m)) ∧ w = w' := by
        by_cases hneg : n.tmod 255 < 0
        · have he := Lib.hid (show wrap64 (n.tmod 255 + 255) = m by rw [← hm'.out]; exact pow_exp1 n h1 h2 hneg)
          go_enter Try.func44, Try.ntmps44
          go_wp2_with fail
          rw [he.out]
          go_loop [6, 7] (fun out i => ∃ k : Nat, k ≤ m ∧ i = .int .i64 k ∧ out = .int .u8 (GF.pw a k)) (fun out i => m - (intOf i).toNat)
          case atStart => exact ⟨0, by omega, rfl, rfl⟩
          case round =>
            obtain ⟨k, hk, rfl, rfl⟩ := hrel
            have hl := GF.pw_lt (a := a) k
            by_cases hkm : k < m
            · go_wp2_with (go_at_call 20; refine (refMul_any _ _ _ (by assumption) (by assumption)).mono ?_; rintro e w' ⟨rfl, rfl⟩)
              go_round
              case rel => exact ⟨k + 1, by omega, by go_num, rfl⟩
              case measure => simp [intOf]; omega
            · have hkk := Lib.hid (show k = m by omega)
              go_wp2_with fail
              go_ret
              exact ⟨ret_u8 (by rw [← hkk.out]), rfl⟩
        · have he := Lib.hid (show n.tmod 255 = m by rw [← hm'.out]; exact pow_exp2 n (by omega))
          go_enter Try.func44, Try.ntmps44
          go_wp2_with fail
          rw [he.out]
          go_loop [6, 7] (fun out i => ∃ k : Nat, k ≤ m ∧ i = .int .i64 k ∧ out = .int .u8 (GF.pw a k)) (fun out i => m - (intOf i).toNat)
          case atStart => exact ⟨0, by omega, rfl, rfl⟩
          case round =>
            obtain ⟨k, hk, rfl, rfl⟩ := hrel
            have hl := GF.pw_lt (a := a) k
            by_cases hkm : k < m
            · go_wp2_with (go_at_call 20; refine (refMul_any _ _ _ (by assumption) (by assumption)).mono ?_; rintro e w' ⟨rfl, rfl⟩)
              go_round
              case rel => exact ⟨k + 1, by omega, by go_num, rfl⟩
              case measure => simp [intOf]; omega
            · have hkk := Lib.hid (show k = m by omega)
              go_wp2_with fail
              go_ret
              exact ⟨ret_u8 (by rw [← hkk.out]), rfl⟩
      refine key.mono ?_
      rintro e w' ⟨rfl, rfl⟩
      exact ⟨ret_u8 (by unfold GF.pwI; rw [if_neg hn'.out, if_neg h0'.out, hm'.out]; rfl), rfl⟩

set_option maxHeartbeats 400000 in
theorem refInv_zero (w : World) :
    Calls Try.prog 37 #[.int .u8 0] w fun e w' => e = .returned (.tuple #[.int .u8 0, .int .i64 3]) ∧ w = w' := by
  go_enter Try.func37, Try.ntmps37
  go_wp2
  go_ret2
  exact ⟨rfl, rfl⟩

set_option maxHeartbeats 400000 in
theorem refInv_nz (a : Nat) (w : World) (ha : a < 256) (h0 : a ≠ 0) :
    Calls Try.prog 37 #[.int .u8 a] w fun e w' => e = .returned (.tuple #[.int .u8 (GF.inv a), .int .i64 0]) ∧ w = w' := by
  have h1 : ((a : Int) == 0) = false := by rw [beq_eq_false_iff_ne]; omega
  have hi := Lib.hid (show GF.pwI a 254 = GF.inv a by unfold GF.pwI; rw [if_neg (by decide), if_neg h0]; rfl)
  go_enter Try.func37, Try.ntmps37
  go_wp2_with (go_at_call 44; refine (refPow_any _ 254 _ (by assumption) (by decide) (by decide)).mono ?_; rintro e w' ⟨rfl, rfl⟩)
  go_ret2
  exact ⟨by rw [← hi.out]; rfl, rfl⟩

end Go.Proofs.Ytojfeldafbabeaa
