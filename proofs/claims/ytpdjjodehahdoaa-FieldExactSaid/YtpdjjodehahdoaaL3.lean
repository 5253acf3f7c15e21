/- The walk of the law FieldExact: it returns true at all bytes and exponents. -/
import Derived.Test.YtpdjjodehahdoaaL2
namespace Go.Proofs.Ytpdjjodehahdoaa
open Go.RowKit

theorem add_any_zz (w : World) :
    Calls Try.prog 11 #[.int .u8 0, .int .u8 0] w fun e w' => e = .returned (.int .u8 ((0 ^^^ 0 : Nat) : Int)) ∧ w = w' := add_any 0 0 w (by decide) (by decide)
theorem refAdd_any_zz (w : World) :
    Calls Try.prog 23 #[.int .u8 0, .int .u8 0] w fun e w' => e = .returned (.int .u8 ((0 ^^^ 0 : Nat) : Int)) ∧ w = w' := refAdd_any 0 0 w (by decide) (by decide)
theorem mul_any_zz (w : World) :
    Calls Try.prog 10 #[.int .u8 0, .int .u8 0] w fun e w' => e = .returned (.int .u8 (GF.mul 0 0 : Nat)) ∧ w = w' := mul_any 0 0 w (by decide) (by decide)
theorem refMul_any_zz (w : World) :
    Calls Try.prog 24 #[.int .u8 0, .int .u8 0] w fun e w' => e = .returned (.int .u8 (GF.mul 0 0 : Nat)) ∧ w = w' := refMul_any 0 0 w (by decide) (by decide)
theorem refPow_0 (n : Int) (w : World) (h1 : -9223372036854775808 ≤ n) (h2 : n ≤ 9223372036854775807) :
    Calls Try.prog 25 #[.int .u8 0, .int .i64 n] w fun e w' => e = .returned (.int .u8 (GF.pwI 0 n)) ∧ w = w' := refPow_any 0 n w (by decide) h1 h2
theorem div_00 (w : World) :
    Calls Try.prog 14 #[.int .u8 0, .int .u8 0] w fun e w' => e = .returned (.tuple #[.int .u8 0, .int .i64 3]) ∧ w = w' := div_zero 0 w (by decide)
theorem refDiv_00 (w : World) :
    Calls Try.prog 21 #[.int .u8 0, .int .u8 0] w fun e w' => e = .returned (.tuple #[.int .u8 0, .int .i64 3]) ∧ w = w' := refDiv_zero 0 w (by decide)
set_option maxHeartbeats 1000000 in
theorem exact_zz (n : Int) (w : World) (hn1 : -9223372036854775808 ≤ n) (hn2 : n ≤ 9223372036854775807) :
    Calls Try.prog 6 #[.int .u8 0, .int .u8 0, .int .i64 n] w fun e w' => e = .returned (.bool true) ∧ w = w' := by
  go_enter Try.func6, Try.ntmps6
  go_wp2_with (first | (go_at_call 11; (with_reducible refine (add_any_zz _).mono ?_); rintro e w' ⟨rfl, rfl⟩) | (go_at_call 23; (with_reducible refine (refAdd_any_zz _).mono ?_); rintro e w' ⟨rfl, rfl⟩) | (go_at_call 10; (with_reducible refine (mul_any_zz _).mono ?_); rintro e w' ⟨rfl, rfl⟩) | (go_at_call 24; (with_reducible refine (refMul_any_zz _).mono ?_); rintro e w' ⟨rfl, rfl⟩) | (go_at_call 14; (with_reducible refine (div_00 _).mono ?_); rintro e w' ⟨rfl, rfl⟩) | (go_at_call 21; (with_reducible refine (refDiv_00 _).mono ?_); rintro e w' ⟨rfl, rfl⟩) | (go_at_call 18; (with_reducible refine (pow_0 _ _ (by omega) (by omega)).mono ?_); rintro e w' ⟨rfl, rfl⟩) | (go_at_call 25; (with_reducible refine (refPow_0 _ _ (by omega) (by omega)).mono ?_); rintro e w' ⟨rfl, rfl⟩) | (go_at_call 13; (with_reducible refine (inv_zero _).mono ?_); rintro e w' ⟨rfl, rfl⟩) | (go_at_call 20; (with_reducible refine (refInv_zero _).mono ?_); rintro e w' ⟨rfl, rfl⟩) | (go_at_call 19; (with_reducible refine (log_zero _).mono ?_); rintro e w' ⟨rfl, rfl⟩) | (go_at_call 22; (with_reducible refine (refLog_zero _).mono ?_); rintro e w' ⟨rfl, rfl⟩) | (go_at_call 12; (with_reducible refine (awake_any _).mono ?_); rintro e w' ⟨rfl, rfl⟩))
  go_ret
  exact ⟨rfl, rfl⟩

theorem add_any_zn (b : Nat) (w : World) (hb : b < 256) :
    Calls Try.prog 11 #[.int .u8 0, .int .u8 b] w fun e w' => e = .returned (.int .u8 ((0 ^^^ b : Nat) : Int)) ∧ w = w' := add_any 0 b w (by decide) hb
theorem refAdd_any_zn (b : Nat) (w : World) (hb : b < 256) :
    Calls Try.prog 23 #[.int .u8 0, .int .u8 b] w fun e w' => e = .returned (.int .u8 ((0 ^^^ b : Nat) : Int)) ∧ w = w' := refAdd_any 0 b w (by decide) hb
theorem mul_any_zn (b : Nat) (w : World) (hb : b < 256) :
    Calls Try.prog 10 #[.int .u8 0, .int .u8 b] w fun e w' => e = .returned (.int .u8 (GF.mul 0 b : Nat)) ∧ w = w' := mul_any 0 b w (by decide) hb
theorem refMul_any_zn (b : Nat) (w : World) (hb : b < 256) :
    Calls Try.prog 24 #[.int .u8 0, .int .u8 b] w fun e w' => e = .returned (.int .u8 (GF.mul 0 b : Nat)) ∧ w = w' := refMul_any 0 b w (by decide) hb
theorem div_0n (b : Nat) (w : World) (hb : b < 256) (b0 : b ≠ 0) :
    Calls Try.prog 14 #[.int .u8 0, .int .u8 b] w fun e w' => e = .returned (.tuple #[.int .u8 (GF.mul 0 (GF.inv b)), .int .i64 0]) ∧ w = w' := div_nz 0 b w (by decide) hb b0
theorem refDiv_0n (b : Nat) (w : World) (hb : b < 256) (b0 : b ≠ 0) :
    Calls Try.prog 21 #[.int .u8 0, .int .u8 b] w fun e w' => e = .returned (.tuple #[.int .u8 (GF.mul 0 (GF.inv b)), .int .i64 0]) ∧ w = w' := refDiv_nz 0 b w (by decide) hb b0
set_option maxHeartbeats 1000000 in
theorem exact_zn (b : Nat) (n : Int) (w : World) (hb : b < 256) (b0 : b ≠ 0) (hn1 : -9223372036854775808 ≤ n) (hn2 : n ≤ 9223372036854775807) :
    Calls Try.prog 6 #[.int .u8 0, .int .u8 b, .int .i64 n] w fun e w' => e = .returned (.bool true) ∧ w = w' := by
  go_enter Try.func6, Try.ntmps6
  go_wp2_with (first | (go_at_call 11; (with_reducible refine (add_any_zn b _ (by omega)).mono ?_); rintro e w' ⟨rfl, rfl⟩) | (go_at_call 23; (with_reducible refine (refAdd_any_zn b _ (by omega)).mono ?_); rintro e w' ⟨rfl, rfl⟩) | (go_at_call 10; (with_reducible refine (mul_any_zn b _ (by omega)).mono ?_); rintro e w' ⟨rfl, rfl⟩) | (go_at_call 24; (with_reducible refine (refMul_any_zn b _ (by omega)).mono ?_); rintro e w' ⟨rfl, rfl⟩) | (go_at_call 14; (with_reducible refine (div_0n b _ (by omega) (by assumption)).mono ?_); rintro e w' ⟨rfl, rfl⟩) | (go_at_call 21; (with_reducible refine (refDiv_0n b _ (by omega) (by assumption)).mono ?_); rintro e w' ⟨rfl, rfl⟩) | (go_at_call 18; (with_reducible refine (pow_0 _ _ (by omega) (by omega)).mono ?_); rintro e w' ⟨rfl, rfl⟩) | (go_at_call 25; (with_reducible refine (refPow_0 _ _ (by omega) (by omega)).mono ?_); rintro e w' ⟨rfl, rfl⟩) | (go_at_call 13; (with_reducible refine (inv_zero _).mono ?_); rintro e w' ⟨rfl, rfl⟩) | (go_at_call 20; (with_reducible refine (refInv_zero _).mono ?_); rintro e w' ⟨rfl, rfl⟩) | (go_at_call 19; (with_reducible refine (log_zero _).mono ?_); rintro e w' ⟨rfl, rfl⟩) | (go_at_call 22; (with_reducible refine (refLog_zero _).mono ?_); rintro e w' ⟨rfl, rfl⟩) | (go_at_call 12; (with_reducible refine (awake_any _).mono ?_); rintro e w' ⟨rfl, rfl⟩))
  go_ret
  exact ⟨rfl, rfl⟩

theorem add_any_nz (a : Nat) (w : World) (ha : a < 256) :
    Calls Try.prog 11 #[.int .u8 a, .int .u8 0] w fun e w' => e = .returned (.int .u8 ((a ^^^ 0 : Nat) : Int)) ∧ w = w' := add_any a 0 w ha (by decide)
theorem refAdd_any_nz (a : Nat) (w : World) (ha : a < 256) :
    Calls Try.prog 23 #[.int .u8 a, .int .u8 0] w fun e w' => e = .returned (.int .u8 ((a ^^^ 0 : Nat) : Int)) ∧ w = w' := refAdd_any a 0 w ha (by decide)
theorem mul_any_nz (a : Nat) (w : World) (ha : a < 256) :
    Calls Try.prog 10 #[.int .u8 a, .int .u8 0] w fun e w' => e = .returned (.int .u8 (GF.mul a 0 : Nat)) ∧ w = w' := mul_any a 0 w ha (by decide)
theorem refMul_any_nz (a : Nat) (w : World) (ha : a < 256) :
    Calls Try.prog 24 #[.int .u8 a, .int .u8 0] w fun e w' => e = .returned (.int .u8 (GF.mul a 0 : Nat)) ∧ w = w' := refMul_any a 0 w ha (by decide)
set_option maxHeartbeats 1000000 in
theorem exact_nz (a : Nat) (n : Int) (w : World) (ha : a < 256) (a0 : a ≠ 0) (hn1 : -9223372036854775808 ≤ n) (hn2 : n ≤ 9223372036854775807) :
    Calls Try.prog 6 #[.int .u8 a, .int .u8 0, .int .i64 n] w fun e w' => e = .returned (.bool true) ∧ w = w' := by
  go_enter Try.func6, Try.ntmps6
  go_wp2_with (first | (go_at_call 11; (with_reducible refine (add_any_nz a _ (by omega)).mono ?_); rintro e w' ⟨rfl, rfl⟩) | (go_at_call 23; (with_reducible refine (refAdd_any_nz a _ (by omega)).mono ?_); rintro e w' ⟨rfl, rfl⟩) | (go_at_call 10; (with_reducible refine (mul_any_nz a _ (by omega)).mono ?_); rintro e w' ⟨rfl, rfl⟩) | (go_at_call 24; (with_reducible refine (refMul_any_nz a _ (by omega)).mono ?_); rintro e w' ⟨rfl, rfl⟩) | (go_at_call 18; (with_reducible refine (pow_any a _ _ (by omega) (by omega) (by omega)).mono ?_); rintro e w' ⟨rfl, rfl⟩) | (go_at_call 25; (with_reducible refine (refPow_any a _ _ (by omega) (by omega) (by omega)).mono ?_); rintro e w' ⟨rfl, rfl⟩) | (go_at_call 13; (with_reducible refine (inv_nz a _ (by omega) (by assumption)).mono ?_); rintro e w' ⟨rfl, rfl⟩) | (go_at_call 20; (with_reducible refine (refInv_nz a _ (by omega) (by assumption)).mono ?_); rintro e w' ⟨rfl, rfl⟩) | (go_at_call 19; (with_reducible refine (log_nz a _ (by omega) (by assumption)).mono ?_); rintro e w' ⟨rfl, rfl⟩) | (go_at_call 22; (with_reducible refine (refLog_nz a _ (by omega) (by assumption)).mono ?_); rintro e w' ⟨rfl, rfl⟩) | (go_at_call 14; (with_reducible refine (div_zero a _ (by omega)).mono ?_); rintro e w' ⟨rfl, rfl⟩) | (go_at_call 21; (with_reducible refine (refDiv_zero a _ (by omega)).mono ?_); rintro e w' ⟨rfl, rfl⟩) | (go_at_call 12; (with_reducible refine (awake_any _).mono ?_); rintro e w' ⟨rfl, rfl⟩))
  go_ret
  exact ⟨rfl, rfl⟩

set_option maxHeartbeats 1000000 in
theorem exact_nn (a : Nat) (b : Nat) (n : Int) (w : World) (ha : a < 256) (a0 : a ≠ 0) (hb : b < 256) (b0 : b ≠ 0) (hn1 : -9223372036854775808 ≤ n) (hn2 : n ≤ 9223372036854775807) :
    Calls Try.prog 6 #[.int .u8 a, .int .u8 b, .int .i64 n] w fun e w' => e = .returned (.bool true) ∧ w = w' := by
  go_enter Try.func6, Try.ntmps6
  go_wp2_with (first | (go_at_call 11; (with_reducible refine (add_any a b _ (by omega) (by omega)).mono ?_); rintro e w' ⟨rfl, rfl⟩) | (go_at_call 23; (with_reducible refine (refAdd_any a b _ (by omega) (by omega)).mono ?_); rintro e w' ⟨rfl, rfl⟩) | (go_at_call 10; (with_reducible refine (mul_any a b _ (by omega) (by omega)).mono ?_); rintro e w' ⟨rfl, rfl⟩) | (go_at_call 24; (with_reducible refine (refMul_any a b _ (by omega) (by omega)).mono ?_); rintro e w' ⟨rfl, rfl⟩) | (go_at_call 18; (with_reducible refine (pow_any a _ _ (by omega) (by omega) (by omega)).mono ?_); rintro e w' ⟨rfl, rfl⟩) | (go_at_call 25; (with_reducible refine (refPow_any a _ _ (by omega) (by omega) (by omega)).mono ?_); rintro e w' ⟨rfl, rfl⟩) | (go_at_call 13; (with_reducible refine (inv_nz a _ (by omega) (by assumption)).mono ?_); rintro e w' ⟨rfl, rfl⟩) | (go_at_call 20; (with_reducible refine (refInv_nz a _ (by omega) (by assumption)).mono ?_); rintro e w' ⟨rfl, rfl⟩) | (go_at_call 19; (with_reducible refine (log_nz a _ (by omega) (by assumption)).mono ?_); rintro e w' ⟨rfl, rfl⟩) | (go_at_call 22; (with_reducible refine (refLog_nz a _ (by omega) (by assumption)).mono ?_); rintro e w' ⟨rfl, rfl⟩) | (go_at_call 14; (with_reducible refine (div_nz a b _ (by omega) (by omega) (by assumption)).mono ?_); rintro e w' ⟨rfl, rfl⟩) | (go_at_call 21; (with_reducible refine (refDiv_nz a b _ (by omega) (by omega) (by assumption)).mono ?_); rintro e w' ⟨rfl, rfl⟩) | (go_at_call 12; (with_reducible refine (awake_any _).mono ?_); rintro e w' ⟨rfl, rfl⟩))
  go_ret
  exact ⟨rfl, rfl⟩

end Go.Proofs.Ytpdjjodehahdoaa
