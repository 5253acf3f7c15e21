/- More walks of the small functions of the field: inverse, quotient, power, logarithm, the program's and the reference's. -/
import Derived.Test.YtpdjjodehahdoaaW1
namespace Go.Proofs.Ytpdjjodehahdoaa
open Go.RowKit

set_option maxHeartbeats 400000 in
theorem add_any (a b : Nat) (w : World) (ha : a < 256) (hb : b < 256) :
    Calls Try.prog 11 #[.int .u8 a, .int .u8 b] w fun e w' => e = .returned (.int .u8 ((a ^^^ b : Nat) : Int)) ∧ w = w' := by
  have h := u8_xor_nat a b ha hb
  have H := Lib.hid h
  clear h
  go_enter Try.func11, Try.ntmps11
  go_wp2
  go_ret
  exact ⟨ret_u8 H.out, rfl⟩

set_option maxHeartbeats 400000 in
theorem refAdd_any (a b : Nat) (w : World) (ha : a < 256) (hb : b < 256) :
    Calls Try.prog 23 #[.int .u8 a, .int .u8 b] w fun e w' => e = .returned (.int .u8 ((a ^^^ b : Nat) : Int)) ∧ w = w' := by
  have h := u8_xor_nat a b ha hb
  have H := Lib.hid h
  clear h
  go_enter Try.func23, Try.ntmps23
  go_wp2
  go_ret
  exact ⟨ret_u8 H.out, rfl⟩

set_option maxHeartbeats 400000 in
theorem inv_zero (w : World) :
    Calls Try.prog 13 #[.int .u8 0] w fun e w' => e = .returned (.tuple #[.int .u8 0, .int .i64 3]) ∧ w = w' := by
  go_enter Try.func13, Try.ntmps13
  go_wp2
  go_ret2
  exact ⟨rfl, rfl⟩

set_option maxHeartbeats 400000 in
theorem inv_nz (a : Nat) (w : World) (ha : a < 256) (h0 : a ≠ 0) :
    Calls Try.prog 13 #[.int .u8 a] w fun e w' => e = .returned (.tuple #[.int .u8 (GF.inv a), .int .i64 0]) ∧ w = w' := by
  have h1 : ((a : Int) == 0) = false := by rw [beq_eq_false_iff_ne]; omega
  go_enter Try.func13, Try.ntmps13
  go_wp2_with (go_at_call 30; refine (power_any _ 254 _ (by assumption) (by decide)).mono ?_; rintro e w' ⟨rfl, rfl⟩)
  go_ret2
  exact ⟨rfl, rfl⟩

set_option maxHeartbeats 400000 in
theorem div_zero (a : Nat) (w : World) (ha : a < 256) :
    Calls Try.prog 14 #[.int .u8 a, .int .u8 0] w fun e w' => e = .returned (.tuple #[.int .u8 0, .int .i64 3]) ∧ w = w' := by
  have h0 := Lib.hid (GF.mul_zero a)
  go_enter Try.func14, Try.ntmps14
  go_wp2_with (first | (go_at_call 13; refine (inv_zero _).mono ?_; rintro e w' ⟨rfl, rfl⟩) | (go_at_call 10; refine (mul_any _ 0 _ (by assumption) (by decide)).mono ?_; rintro e w' ⟨rfl, rfl⟩))
  go_ret2
  exact ⟨by rw [h0.out]; rfl, rfl⟩

set_option maxHeartbeats 400000 in
theorem div_nz (a b : Nat) (w : World) (ha : a < 256) (hb : b < 256) (h0 : b ≠ 0) :
    Calls Try.prog 14 #[.int .u8 a, .int .u8 b] w fun e w' => e = .returned (.tuple #[.int .u8 (GF.mul a (GF.inv b)), .int .i64 0]) ∧ w = w' := by
  have hi := GF.inv_lt b
  go_enter Try.func14, Try.ntmps14
  go_wp2_with (first | (go_at_call 13; refine (inv_nz _ _ (by assumption) (by assumption)).mono ?_; rintro e w' ⟨rfl, rfl⟩) | (go_at_call 10; refine (mul_any _ _ _ (by assumption) (by assumption)).mono ?_; rintro e w' ⟨rfl, rfl⟩))
  go_ret2
  exact ⟨rfl, rfl⟩

theorem tmod255 (n : Int) : n.tmod 255 = if 0 ≤ n then n % 255 else -(-n % 255) := by
  split
  · exact Int.tmod_eq_emod_of_nonneg (by assumption)
  · have := Int.neg_tmod (-n) 255
    rw [Int.neg_neg] at this
    rw [this, Int.tmod_eq_emod_of_nonneg (by omega)]
theorem pow_exp (n : Int) (h1 : -9223372036854775808 ≤ n) (h2 : n ≤ 9223372036854775807) : (wrap64 (n.tmod 255 + 255)).tmod 255 = (((n % 255).toNat : Nat) : Int) := by
  rw [tmod255 n]
  split
  · rw [IntWalk.wrap64_in _ (by omega), Int.tmod_eq_emod_of_nonneg (by omega)]; omega
  · rw [IntWalk.wrap64_in _ (by omega), Int.tmod_eq_emod_of_nonneg (by omega)]; omega
theorem pow_exp1 (n : Int) (h1 : -9223372036854775808 ≤ n) (h2 : n ≤ 9223372036854775807) (h : n.tmod 255 < 0) : wrap64 (n.tmod 255 + 255) = n % 255 := by
  rw [tmod255 n] at h ⊢
  split at h
  · omega
  · rename_i hn; rw [if_neg hn, IntWalk.wrap64_in _ (by omega)]; omega
theorem pow_exp2 (n : Int) (h : 0 ≤ n.tmod 255) : n.tmod 255 = n % 255 := by
  rw [tmod255 n] at h ⊢
  split at h
  · rename_i hn; rw [if_pos hn]
  · rename_i hn; rw [if_neg hn]; omega

set_option maxHeartbeats 400000 in
theorem pow_any (a : Nat) (n : Int) (w : World) (ha : a < 256) (h1 : -9223372036854775808 ≤ n) (h2 : n ≤ 9223372036854775807) :
    Calls Try.prog 18 #[.int .u8 a, .int .i64 n] w fun e w' => e = .returned (.int .u8 (GF.pwI a n)) ∧ w = w' := by
  by_cases hn : n = 0
  · subst hn
    go_enter Try.func18, Try.ntmps18
    go_wp2
    go_ret
    exact ⟨rfl, rfl⟩
  · have hn1 : (n == 0) = false := by rw [beq_eq_false_iff_ne]; exact hn
    have hn' := Lib.hid hn
    clear hn
    by_cases h0 : a = 0
    · subst h0
      go_enter Try.func18, Try.ntmps18
      go_wp2
      go_ret
      exact ⟨ret_u8 (by unfold GF.pwI; rw [if_neg hn'.out, if_pos rfl]; rfl), rfl⟩
    · have h01 : ((a : Int) == 0) = false := by rw [beq_eq_false_iff_ne]; omega
      have h0' := Lib.hid h0
      clear h0
      go_enter Try.func18, Try.ntmps18
      go_wp2_with fail
      rw [pow_exp n h1 h2]
      have hm := Lib.hid (pow_exp n h1 h2)
      refine (power_any _ _ _ (by assumption) (by omega)).mono ?_
      rintro e w' ⟨rfl, rfl⟩
      go_wp2_with fail
      go_ret
      exact ⟨ret_u8 (by unfold GF.pwI; rw [if_neg hn'.out, if_neg h0'.out]), rfl⟩

set_option maxHeartbeats 400000 in
theorem refPow_any (a : Nat) (n : Int) (w : World) (ha : a < 256) (h1 : -9223372036854775808 ≤ n) (h2 : n ≤ 9223372036854775807) :
    Calls Try.prog 25 #[.int .u8 a, .int .i64 n] w fun e w' => e = .returned (.int .u8 (GF.pwI a n)) ∧ w = w' := by
  by_cases hn : n = 0
  · subst hn
    go_enter Try.func25, Try.ntmps25
    go_wp2
    go_ret
    exact ⟨rfl, rfl⟩
  · have hn1 : (n == 0) = false := by rw [beq_eq_false_iff_ne]; exact hn
    have hn' := Lib.hid hn
    clear hn
    by_cases h0 : a = 0
    · subst h0
      go_enter Try.func25, Try.ntmps25
      go_wp2
      go_ret
      exact ⟨ret_u8 (by unfold GF.pwI; rw [if_neg hn'.out, if_pos rfl]; rfl), rfl⟩
    · have h01 : ((a : Int) == 0) = false := by rw [beq_eq_false_iff_ne]; omega
      have h0' := Lib.hid h0
      clear h0
      obtain ⟨m, hm⟩ : ∃ m : Nat, n % 255 = m := ⟨(n % 255).toNat, by omega⟩
      have hm' := Lib.hid hm
      have hm2 : (m : Int) < 255 := by omega
      clear hm
      have key : Calls Try.prog 25 #[.int .u8 a, .int .i64 n] w fun e w' => e = .returned (.int .u8 (GF.pw a m)) ∧ w = w' := by
        by_cases hneg : n.tmod 255 < 0
        · have he := Lib.hid (show wrap64 (n.tmod 255 + 255) = m by rw [← hm'.out]; exact pow_exp1 n h1 h2 hneg)
          go_enter Try.func25, Try.ntmps25
          go_wp2_with fail
          rw [he.out]
          go_loop [6, 7] (fun out i => ∃ k : Nat, k ≤ m ∧ i = .int .i64 k ∧ out = .int .u8 (GF.pw a k)) (fun out i => m - (intOf i).toNat)
          case atStart => exact ⟨0, by omega, rfl, rfl⟩
          case round =>
            obtain ⟨k, hk, rfl, rfl⟩ := hrel
            have hl := GF.pw_lt (a := a) k
            by_cases hkm : k < m
            · go_wp2_with (go_at_call 24; refine (refMul_any _ _ _ (by assumption) (by assumption)).mono ?_; rintro e w' ⟨rfl, rfl⟩)
              go_round
              case rel => exact ⟨k + 1, by omega, by go_num, rfl⟩
              case measure => simp [intOf]; omega
            · have hkk := Lib.hid (show k = m by omega)
              go_wp2_with fail
              go_ret
              exact ⟨ret_u8 (by rw [← hkk.out]), rfl⟩
        · have he := Lib.hid (show n.tmod 255 = m by rw [← hm'.out]; exact pow_exp2 n (by omega))
          go_enter Try.func25, Try.ntmps25
          go_wp2_with fail
          rw [he.out]
          go_loop [6, 7] (fun out i => ∃ k : Nat, k ≤ m ∧ i = .int .i64 k ∧ out = .int .u8 (GF.pw a k)) (fun out i => m - (intOf i).toNat)
          case atStart => exact ⟨0, by omega, rfl, rfl⟩
          case round =>
            obtain ⟨k, hk, rfl, rfl⟩ := hrel
            have hl := GF.pw_lt (a := a) k
            by_cases hkm : k < m
            · go_wp2_with (go_at_call 24; refine (refMul_any _ _ _ (by assumption) (by assumption)).mono ?_; rintro e w' ⟨rfl, rfl⟩)
              go_round
              case rel => exact ⟨k + 1, by omega, by go_num, rfl⟩
              case measure => simp [intOf]; omega
            · have hkk := Lib.hid (show k = m by omega)
              go_wp2_with fail
              go_ret
              exact ⟨ret_u8 (by rw [← hkk.out]), rfl⟩
      refine key.mono ?_
      rintro e w' ⟨rfl, rfl⟩
      exact ⟨ret_u8 (by unfold GF.pwI; rw [if_neg hn'.out, if_neg h0'.out, hm'.out]; rfl), rfl⟩

set_option maxHeartbeats 400000 in
theorem refInv_zero (w : World) :
    Calls Try.prog 20 #[.int .u8 0] w fun e w' => e = .returned (.tuple #[.int .u8 0, .int .i64 3]) ∧ w = w' := by
  go_enter Try.func20, Try.ntmps20
  go_wp2
  go_ret2
  exact ⟨rfl, rfl⟩

set_option maxHeartbeats 400000 in
theorem refInv_nz (a : Nat) (w : World) (ha : a < 256) (h0 : a ≠ 0) :
    Calls Try.prog 20 #[.int .u8 a] w fun e w' => e = .returned (.tuple #[.int .u8 (GF.inv a), .int .i64 0]) ∧ w = w' := by
  have h1 : ((a : Int) == 0) = false := by rw [beq_eq_false_iff_ne]; omega
  have hi := Lib.hid (show GF.pwI a 254 = GF.inv a by unfold GF.pwI; rw [if_neg (by decide), if_neg h0]; rfl)
  go_enter Try.func20, Try.ntmps20
  go_wp2_with (go_at_call 25; refine (refPow_any _ 254 _ (by assumption) (by decide) (by decide)).mono ?_; rintro e w' ⟨rfl, rfl⟩)
  go_ret2
  exact ⟨by rw [← hi.out]; rfl, rfl⟩

set_option maxHeartbeats 400000 in
theorem refDiv_zero (a : Nat) (w : World) (ha : a < 256) :
    Calls Try.prog 21 #[.int .u8 a, .int .u8 0] w fun e w' => e = .returned (.tuple #[.int .u8 0, .int .i64 3]) ∧ w = w' := by
  have h0 := Lib.hid (GF.mul_zero a)
  go_enter Try.func21, Try.ntmps21
  go_wp2_with (first | (go_at_call 20; refine (refInv_zero _).mono ?_; rintro e w' ⟨rfl, rfl⟩) | (go_at_call 24; refine (refMul_any _ 0 _ (by assumption) (by decide)).mono ?_; rintro e w' ⟨rfl, rfl⟩))
  go_ret2
  exact ⟨by rw [h0.out]; rfl, rfl⟩

set_option maxHeartbeats 400000 in
theorem refDiv_nz (a b : Nat) (w : World) (ha : a < 256) (hb : b < 256) (h0 : b ≠ 0) :
    Calls Try.prog 21 #[.int .u8 a, .int .u8 b] w fun e w' => e = .returned (.tuple #[.int .u8 (GF.mul a (GF.inv b)), .int .i64 0]) ∧ w = w' := by
  have hi := GF.inv_lt b
  go_enter Try.func21, Try.ntmps21
  go_wp2_with (first | (go_at_call 20; refine (refInv_nz _ _ (by assumption) (by assumption)).mono ?_; rintro e w' ⟨rfl, rfl⟩) | (go_at_call 24; refine (refMul_any _ _ _ (by assumption) (by assumption)).mono ?_; rintro e w' ⟨rfl, rfl⟩))
  go_ret2
  exact ⟨rfl, rfl⟩


set_option maxHeartbeats 400000 in
theorem log_zero (w : World) :
    Calls Try.prog 19 #[.int .u8 0] w fun e w' => e = .returned (.tuple #[.int .i64 0, .int .i64 3]) ∧ w = w' := by
  go_enter Try.func19, Try.ntmps19
  go_wp2
  go_ret2
  exact ⟨rfl, rfl⟩

set_option maxHeartbeats 400000 in
theorem log_nz (a : Nat) (w : World) (ha : a < 256) (h0 : a ≠ 0) :
    Calls Try.prog 19 #[.int .u8 a] w fun e w' => e = .returned (.tuple #[.int .i64 (GF.lg a), .int .i64 0]) ∧ w = w' := by
  have h1 : ((a : Int) == 0) = false := by rw [beq_eq_false_iff_ne]; omega
  have hlt := GF.lg_lt ha h0
  have hpw := Lib.hid (GF.pw_lg ha h0)
  go_enter Try.func19, Try.ntmps19
  go_wp2_with fail
  go_loop [4, 5] (fun n x => ∃ k : Nat, k ≤ GF.lg a ∧ n = .int .i64 k ∧ x = .int .u8 (GF.pw 2 k)) (fun n x => GF.lg a - (intOf n).toNat)
  case atStart => exact ⟨0, by omega, rfl, rfl⟩
  case round =>
    obtain ⟨k, hk, rfl, rfl⟩ := hrel
    have hl := GF.pw_lt (a := 2) k
    by_cases hkm : k < GF.lg a
    · have hne : (((GF.pw 2 k : Nat) : Int) != (a : Int)) = true := by have := GF.lg_min hkm; rw [bne_iff_ne]; omega
      go_wp2_with (go_at_call 10; refine (mul_any _ 2 _ (by assumption) (by decide)).mono ?_; rintro e w' ⟨rfl, rfl⟩)
      go_round
      case rel => exact ⟨k + 1, by omega, by go_num, rfl⟩
      case measure => simp [intOf]; omega
    · have hkk := Lib.hid (show k = GF.lg a by omega)
      have hne : (((GF.pw 2 k : Nat) : Int) != (a : Int)) = false := by rw [hkk.out, hpw.out]; simp
      go_wp2_with fail
      go_ret2
      exact ⟨by rw [← hkk.out]; rfl, rfl⟩

set_option maxHeartbeats 400000 in
theorem refLog_zero (w : World) :
    Calls Try.prog 22 #[.int .u8 0] w fun e w' => e = .returned (.tuple #[.int .i64 0, .int .i64 3]) ∧ w = w' := by
  go_enter Try.func22, Try.ntmps22
  go_wp2
  go_ret2
  exact ⟨rfl, rfl⟩

set_option maxHeartbeats 400000 in
theorem refLog_nz (a : Nat) (w : World) (ha : a < 256) (h0 : a ≠ 0) :
    Calls Try.prog 22 #[.int .u8 a] w fun e w' => e = .returned (.tuple #[.int .i64 (GF.lg a), .int .i64 0]) ∧ w = w' := by
  have h1 : ((a : Int) == 0) = false := by rw [beq_eq_false_iff_ne]; omega
  have hlt := GF.lg_lt ha h0
  have hpw := Lib.hid (GF.pw_lg ha h0)
  go_enter Try.func22, Try.ntmps22
  go_wp2_with fail
  go_loop [4, 5] (fun n x => ∃ k : Nat, k ≤ GF.lg a ∧ n = .int .i64 k ∧ x = .int .u8 (GF.pw 2 k)) (fun n x => GF.lg a - (intOf n).toNat)
  case atStart => exact ⟨0, by omega, rfl, rfl⟩
  case round =>
    obtain ⟨k, hk, rfl, rfl⟩ := hrel
    have hl := GF.pw_lt (a := 2) k
    by_cases hkm : k < GF.lg a
    · have hne : (((GF.pw 2 k : Nat) : Int) != (a : Int)) = true := by have := GF.lg_min hkm; rw [bne_iff_ne]; omega
      go_wp2_with (go_at_call 24; refine (refMul_any _ 2 _ (by assumption) (by decide)).mono ?_; rintro e w' ⟨rfl, rfl⟩)
      go_round
      case rel => exact ⟨k + 1, by omega, by go_num, rfl⟩
      case measure => simp [intOf]; omega
    · have hkk := Lib.hid (show k = GF.lg a by omega)
      have hne : (((GF.pw 2 k : Nat) : Int) != (a : Int)) = false := by rw [hkk.out, hpw.out]; simp
      go_wp2_with fail
      go_ret2
      exact ⟨by rw [← hkk.out]; rfl, rfl⟩

set_option maxHeartbeats 400000 in
theorem awake_any (w : World) :
    Calls Try.prog 12 #[] w fun e w' => e = .returned (.bool true) ∧ w = w' := by
  have e1 : GF.inv 2 = 142 := by rw [GF.inv_sq 2 (by decide)]; decide +kernel
  have e2 : GF.mul 128 2 = 29 := by decide +kernel
  have H1 := Lib.hid e1
  have H2 := Lib.hid e2
  clear e1 e2
  go_enter Try.func12, Try.ntmps12
  go_wp2_with (first | (go_at_call 13; refine (inv_nz 2 _ (by decide) (by decide)).mono ?_; rintro e w' ⟨rfl, rfl⟩; rw [H1.out]) | (go_at_call 13; refine (inv_zero _).mono ?_; rintro e w' ⟨rfl, rfl⟩) | (go_at_call 10; refine (mul_any 128 2 _ (by decide) (by decide)).mono ?_; rintro e w' ⟨rfl, rfl⟩; rw [H2.out]))
  go_ret
  exact ⟨rfl, rfl⟩

end Go.Proofs.Ytpdjjodehahdoaa
