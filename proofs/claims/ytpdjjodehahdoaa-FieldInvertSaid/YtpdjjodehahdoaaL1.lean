/- The walks of the laws FieldLaws, FieldPowers and FieldExact: each returns true at all bytes and exponents. -/
import Derived.Test.YtpdjjodehahdoaaW2
namespace Go.Proofs.Ytpdjjodehahdoaa
open Go.RowKit

theorem ne_self (x y : Nat) (h : x = y) : (((x : Nat) : Int) != ((y : Nat) : Int)) = false := by subst h; simp
theorem eq_self (x y : Nat) (h : x = y) : (((x : Nat) : Int) == ((y : Nat) : Int)) = true := by subst h; simp

set_option maxHeartbeats 1000000 in
theorem laws_any (a b c : Nat) (w : World) (ha : a < 256) (hb : b < 256) (hc : c < 256) :
    Calls Try.prog 3 #[.int .u8 a, .int .u8 b, .int .u8 c] w fun e w' => e = .returned (.bool true) ∧ w = w' := by
  have t1 := ne_self _ _ (GF.mul_comm ha hb)
  have t2 := ne_self _ _ (GF.mul_assoc ha hb hc)
  have t3 := ne_self (GF.mul a (b ^^^ c)) (GF.mul a b ^^^ GF.mul a c) GF.mul_add
  have t4 : (((a ^^^ a : Nat) : Int) != 0) = false := by simp
  have t5 := ne_self _ _ (GF.mul_one a ha)
  have s1 : GF.mul (a ^^^ b) (a ^^^ b) = GF.mul a a ^^^ GF.mul b b := by
    rw [GF.mul_add, GF.add_mul ha hb, GF.add_mul ha hb, GF.mul_comm hb ha, Nat.xor_assoc, ← Nat.xor_assoc (GF.mul a b), Nat.xor_self, Nat.zero_xor]
  have t6 := ne_self _ _ s1
  have S1 := Lib.hid s1
  clear s1
  have l1 := GF.mul_lt (b := b) ha
  have l2 := GF.mul_lt (b := c) ha
  have l3 := GF.mul_lt (b := c) hb
  have l4 := GF.xor_lt hb hc
  have l5 := GF.xor_lt ha hb
  have l6 := GF.mul_lt (b := a) ha
  have l7 := GF.mul_lt (b := b) hb
  have l8 := GF.inv_lt b
  have l9 := GF.mul_lt (b := GF.inv b) ha
  by_cases hb0 : b = 0
  · have hb1 : ((b : Int) != 0) = false := by subst hb0; rfl
    have hb2 : ((b : Int) == 0) = true := by subst hb0; rfl
    have HB := Lib.hid hb0
    clear hb0
    by_cases ha0 : a = 0
    · have ha1 : ((a : Int) != 0) = false := by subst ha0; rfl
      have HA := Lib.hid ha0
      clear ha0
      go_enter Try.func3, Try.ntmps3
      go_wp2_with (first | (go_at_call 10; refine (mul_any _ _ _ (by omega) (by omega)).mono ?_; rintro e w' ⟨rfl, rfl⟩) | (go_at_call 10; refine (mul_any _ 1 _ (by omega) (by omega)).mono ?_; rintro e w' ⟨rfl, rfl⟩) | (go_at_call 11; refine (add_any _ _ _ (by omega) (by omega)).mono ?_; rintro e w' ⟨rfl, rfl⟩) | (go_at_call 12; refine (awake_any _).mono ?_; rintro e w' ⟨rfl, rfl⟩) | (go_at_call 13; refine (inv_nz _ _ (by omega) (by assumption)).mono ?_; rintro e w' ⟨rfl, rfl⟩) | (go_at_call 14; refine (div_nz _ _ _ (by omega) (by omega) (by assumption)).mono ?_; rintro e w' ⟨rfl, rfl⟩))
      go_ret
      exact ⟨rfl, rfl⟩
    · have ha1 : ((a : Int) != 0) = true := by rw [bne_iff_ne]; omega
      go_enter Try.func3, Try.ntmps3
      go_wp2_with (first | (go_at_call 10; refine (mul_any _ _ _ (by omega) (by omega)).mono ?_; rintro e w' ⟨rfl, rfl⟩) | (go_at_call 10; refine (mul_any _ 1 _ (by omega) (by omega)).mono ?_; rintro e w' ⟨rfl, rfl⟩) | (go_at_call 11; refine (add_any _ _ _ (by omega) (by omega)).mono ?_; rintro e w' ⟨rfl, rfl⟩) | (go_at_call 12; refine (awake_any _).mono ?_; rintro e w' ⟨rfl, rfl⟩) | (go_at_call 13; refine (inv_nz _ _ (by omega) (by assumption)).mono ?_; rintro e w' ⟨rfl, rfl⟩) | (go_at_call 14; refine (div_nz _ _ _ (by omega) (by omega) (by assumption)).mono ?_; rintro e w' ⟨rfl, rfl⟩))
      go_ret
      exact ⟨rfl, rfl⟩
  · have hb1 : ((b : Int) != 0) = true := by rw [bne_iff_ne]; omega
    have hb2 : ((b : Int) == 0) = false := by rw [beq_eq_false_iff_ne]; omega
    have t7 : (((GF.mul (GF.inv b) b : Nat) : Int) == 1) = true := eq_self (GF.mul (GF.inv b) b) 1 (GF.mul_inv b hb hb0)
    have t8 := eq_self (GF.mul (GF.mul a (GF.inv b)) b) a (by rw [GF.mul_assoc ha l8 hb, GF.mul_inv b hb hb0, GF.mul_one a ha])
    by_cases ha0 : a = 0
    · have ha1 : ((a : Int) != 0) = false := by subst ha0; rfl
      have HA := Lib.hid ha0
      clear ha0
      go_enter Try.func3, Try.ntmps3
      go_wp2_with (first | (go_at_call 10; refine (mul_any _ _ _ (by omega) (by omega)).mono ?_; rintro e w' ⟨rfl, rfl⟩) | (go_at_call 10; refine (mul_any _ 1 _ (by omega) (by omega)).mono ?_; rintro e w' ⟨rfl, rfl⟩) | (go_at_call 11; refine (add_any _ _ _ (by omega) (by omega)).mono ?_; rintro e w' ⟨rfl, rfl⟩) | (go_at_call 12; refine (awake_any _).mono ?_; rintro e w' ⟨rfl, rfl⟩) | (go_at_call 13; refine (inv_nz _ _ (by omega) (by assumption)).mono ?_; rintro e w' ⟨rfl, rfl⟩) | (go_at_call 14; refine (div_nz _ _ _ (by omega) (by omega) (by assumption)).mono ?_; rintro e w' ⟨rfl, rfl⟩))
      go_ret
      exact ⟨rfl, rfl⟩
    · have ha1 : ((a : Int) != 0) = true := by rw [bne_iff_ne]; omega
      have t9 : (((GF.mul a b : Nat) : Int) == 0) = false := by
        rw [beq_eq_false_iff_ne]; intro h; exact ha0 (GF.mul_eq_zero ha hb (by omega) hb0)
      go_enter Try.func3, Try.ntmps3
      go_wp2_with (first | (go_at_call 10; refine (mul_any _ _ _ (by omega) (by omega)).mono ?_; rintro e w' ⟨rfl, rfl⟩) | (go_at_call 10; refine (mul_any _ 1 _ (by omega) (by omega)).mono ?_; rintro e w' ⟨rfl, rfl⟩) | (go_at_call 11; refine (add_any _ _ _ (by omega) (by omega)).mono ?_; rintro e w' ⟨rfl, rfl⟩) | (go_at_call 12; refine (awake_any _).mono ?_; rintro e w' ⟨rfl, rfl⟩) | (go_at_call 13; refine (inv_nz _ _ (by omega) (by assumption)).mono ?_; rintro e w' ⟨rfl, rfl⟩) | (go_at_call 14; refine (div_nz _ _ _ (by omega) (by omega) (by assumption)).mono ?_; rintro e w' ⟨rfl, rfl⟩))
      go_ret
      exact ⟨rfl, rfl⟩

theorem nat_of_u8 {n : Int} (h : (Lit.int .u8 n).wf = true) : ∃ k : Nat, n = k ∧ k < 256 := by
  simp [Lit.wf, IntKind.min, IntKind.max, IntKind.signed, IntKind.bits] at h
  exact ⟨n.toNat, by omega, by omega⟩

end Go.Proofs.Ytpdjjodehahdoaa
