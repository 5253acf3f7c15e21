/- The walk of the law FieldPowers: it returns true at all bytes and exponents. -/
import Derived.Test.YtpdjjodehahdoaaL1
namespace Go.Proofs.Ytpdjjodehahdoaa
open Go.RowKit

theorem pow_00 (w : World) :
    Calls Try.prog 18 #[.int .u8 0, .int .i64 0] w fun e w' => e = .returned (.int .u8 1) ∧ w = w' := pow_any 0 0 w (by decide) (by decide) (by decide)
theorem pow_0 (n : Int) (w : World) (h1 : -9223372036854775808 ≤ n) (h2 : n ≤ 9223372036854775807) :
    Calls Try.prog 18 #[.int .u8 0, .int .i64 n] w fun e w' => e = .returned (.int .u8 (GF.pwI 0 n)) ∧ w = w' := pow_any 0 n w (by decide) h1 h2
theorem pow_2 (n : Int) (w : World) (h1 : -9223372036854775808 ≤ n) (h2 : n ≤ 9223372036854775807) :
    Calls Try.prog 18 #[.int .u8 2, .int .i64 n] w fun e w' => e = .returned (.int .u8 (GF.pwI 2 n)) ∧ w = w' := pow_any 2 n w (by decide) h1 h2

set_option maxHeartbeats 1000000 in
theorem powers_zero (b : Nat) (m n : Int) (w : World) (hn1 : -2147483648 ≤ n) (hn2 : n ≤ 2147483647) :
    Calls Try.prog 5 #[.int .u8 0, .int .u8 b, .int .i32 m, .int .i32 n] w fun e w' => e = .returned (.bool true) ∧ w = w' := by
  by_cases hn : n = 0
  · subst hn
    go_enter Try.func5, Try.ntmps5
    go_wp2_with (first | (go_at_call 18; (with_reducible refine (pow_00 _).mono ?_); rintro e w' ⟨rfl, rfl⟩) | (go_at_call 18; (with_reducible refine (pow_0 _ _ (by omega) (by omega)).mono ?_); rintro e w' ⟨rfl, rfl⟩) | (go_at_call 18; (with_reducible refine (pow_2 _ _ (by omega) (by omega)).mono ?_); rintro e w' ⟨rfl, rfl⟩) | (go_at_call 18; (with_reducible refine (pow_any a _ _ (by omega) (by omega) (by omega)).mono ?_); rintro e w' ⟨rfl, rfl⟩) | (go_at_call 10; (with_reducible refine (mul_any _ _ _ (by omega) (by omega)).mono ?_); rintro e w' ⟨rfl, rfl⟩) | (go_at_call 19; (with_reducible refine (log_nz a _ (by omega) (by assumption)).mono ?_); rintro e w' ⟨rfl, rfl⟩) | (go_at_call 19; (with_reducible refine (log_nz b _ (by omega) (by assumption)).mono ?_); rintro e w' ⟨rfl, rfl⟩) | (go_at_call 19; (with_reducible refine (log_nz (GF.mul a b) _ (by omega) (by assumption)).mono ?_); rintro e w' ⟨rfl, rfl⟩) | (go_at_call 12; (with_reducible refine (awake_any _).mono ?_); rintro e w' ⟨rfl, rfl⟩))
    go_ret
    exact ⟨rfl, rfl⟩
  · have h1 : (n == 0) = false := by rw [beq_eq_false_iff_ne]; exact hn
    have h2 : (((GF.pwI 0 n : Nat) : Int) == 0) = true := by unfold GF.pwI; rw [if_neg hn, if_pos rfl]; rfl
    clear hn
    go_enter Try.func5, Try.ntmps5
    go_wp2_with (first | (go_at_call 18; (with_reducible refine (pow_00 _).mono ?_); rintro e w' ⟨rfl, rfl⟩) | (go_at_call 18; (with_reducible refine (pow_0 _ _ (by omega) (by omega)).mono ?_); rintro e w' ⟨rfl, rfl⟩) | (go_at_call 18; (with_reducible refine (pow_2 _ _ (by omega) (by omega)).mono ?_); rintro e w' ⟨rfl, rfl⟩) | (go_at_call 18; (with_reducible refine (pow_any a _ _ (by omega) (by omega) (by omega)).mono ?_); rintro e w' ⟨rfl, rfl⟩) | (go_at_call 10; (with_reducible refine (mul_any _ _ _ (by omega) (by omega)).mono ?_); rintro e w' ⟨rfl, rfl⟩) | (go_at_call 19; (with_reducible refine (log_nz a _ (by omega) (by assumption)).mono ?_); rintro e w' ⟨rfl, rfl⟩) | (go_at_call 19; (with_reducible refine (log_nz b _ (by omega) (by assumption)).mono ?_); rintro e w' ⟨rfl, rfl⟩) | (go_at_call 19; (with_reducible refine (log_nz (GF.mul a b) _ (by omega) (by assumption)).mono ?_); rintro e w' ⟨rfl, rfl⟩) | (go_at_call 12; (with_reducible refine (awake_any _).mono ?_); rintro e w' ⟨rfl, rfl⟩))
    go_ret
    exact ⟨rfl, rfl⟩

set_option maxHeartbeats 1000000 in
theorem powers_any (a b : Nat) (m n : Int) (w : World) (ha : a < 256) (hb : b < 256) (a0 : a ≠ 0) (hm1 : -2147483648 ≤ m) (hm2 : m ≤ 2147483647) (hn1 : -2147483648 ≤ n) (hn2 : n ≤ 2147483647) :
    Calls Try.prog 5 #[.int .u8 a, .int .u8 b, .int .i32 m, .int .i32 n] w fun e w' => e = .returned (.bool true) ∧ w = w' := by
  have h0 : ((a : Int) == 0) = false := by rw [beq_eq_false_iff_ne]; omega
  have t1 := ne_self _ _ (GF.pwI_add ha a0 m n)
  have t2 := ne_self _ _ (GF.pwI_255 ha a0 m).symm
  have t3 := ne_self _ _ (GF.pwI_lg ha a0)
  have l1 := GF.pwI_lt a m
  have l2 := GF.pwI_lt a n
  have l3 := GF.lg_lt ha a0
  have l4 := GF.mul_lt (b := b) ha
  by_cases b0 : b = 0
  · have hb0 : ((b : Int) == 0) = true := by subst b0; rfl
    have B0 := Lib.hid b0
    clear b0
    go_enter Try.func5, Try.ntmps5
    go_wp2_with (first | (go_at_call 18; (with_reducible refine (pow_00 _).mono ?_); rintro e w' ⟨rfl, rfl⟩) | (go_at_call 18; (with_reducible refine (pow_0 _ _ (by omega) (by omega)).mono ?_); rintro e w' ⟨rfl, rfl⟩) | (go_at_call 18; (with_reducible refine (pow_2 _ _ (by omega) (by omega)).mono ?_); rintro e w' ⟨rfl, rfl⟩) | (go_at_call 18; (with_reducible refine (pow_any a _ _ (by omega) (by omega) (by omega)).mono ?_); rintro e w' ⟨rfl, rfl⟩) | (go_at_call 10; (with_reducible refine (mul_any _ _ _ (by omega) (by omega)).mono ?_); rintro e w' ⟨rfl, rfl⟩) | (go_at_call 19; (with_reducible refine (log_nz a _ (by omega) (by assumption)).mono ?_); rintro e w' ⟨rfl, rfl⟩) | (go_at_call 19; (with_reducible refine (log_nz b _ (by omega) (by assumption)).mono ?_); rintro e w' ⟨rfl, rfl⟩) | (go_at_call 19; (with_reducible refine (log_nz (GF.mul a b) _ (by omega) (by assumption)).mono ?_); rintro e w' ⟨rfl, rfl⟩) | (go_at_call 12; (with_reducible refine (awake_any _).mono ?_); rintro e w' ⟨rfl, rfl⟩))
    go_ret
    exact ⟨rfl, rfl⟩
  · have hb0 : ((b : Int) == 0) = false := by rw [beq_eq_false_iff_ne]; omega
    have ab0 : GF.mul a b ≠ 0 := fun h => a0 (GF.mul_eq_zero ha hb h b0)
    have l5 := GF.lg_lt hb b0
    have l6 := GF.lg_lt l4 ab0
    have t4 : (((GF.lg (GF.mul a b) : Nat) : Int) == (((GF.lg a : Nat) : Int) + ((GF.lg b : Nat) : Int)) % 255) = true := by
      rw [beq_iff_eq, GF.lg_mul ha hb a0 b0]; omega
    go_enter Try.func5, Try.ntmps5
    go_wp2_with (first | (go_at_call 18; (with_reducible refine (pow_00 _).mono ?_); rintro e w' ⟨rfl, rfl⟩) | (go_at_call 18; (with_reducible refine (pow_0 _ _ (by omega) (by omega)).mono ?_); rintro e w' ⟨rfl, rfl⟩) | (go_at_call 18; (with_reducible refine (pow_2 _ _ (by omega) (by omega)).mono ?_); rintro e w' ⟨rfl, rfl⟩) | (go_at_call 18; (with_reducible refine (pow_any a _ _ (by omega) (by omega) (by omega)).mono ?_); rintro e w' ⟨rfl, rfl⟩) | (go_at_call 10; (with_reducible refine (mul_any _ _ _ (by omega) (by omega)).mono ?_); rintro e w' ⟨rfl, rfl⟩) | (go_at_call 19; (with_reducible refine (log_nz a _ (by omega) (by assumption)).mono ?_); rintro e w' ⟨rfl, rfl⟩) | (go_at_call 19; (with_reducible refine (log_nz b _ (by omega) (by assumption)).mono ?_); rintro e w' ⟨rfl, rfl⟩) | (go_at_call 19; (with_reducible refine (log_nz (GF.mul a b) _ (by omega) (by assumption)).mono ?_); rintro e w' ⟨rfl, rfl⟩) | (go_at_call 12; (with_reducible refine (awake_any _).mono ?_); rintro e w' ⟨rfl, rfl⟩))
    go_ret
    exact ⟨rfl, rfl⟩

theorem range_of_i32 {n : Int} (h : (Lit.int .i32 n).wf = true) : -2147483648 ≤ n ∧ n ≤ 2147483647 := by
  simp [Lit.wf, IntKind.min, IntKind.max, IntKind.signed, IntKind.bits] at h
  exact h
theorem range_of_i64 {n : Int} (h : (Lit.int .i64 n).wf = true) : -9223372036854775808 ≤ n ∧ n ≤ 9223372036854775807 := by
  simp [Lit.wf, IntKind.min, IntKind.max, IntKind.signed, IntKind.bits] at h
  exact h

end Go.Proofs.Ytpdjjodehahdoaa
