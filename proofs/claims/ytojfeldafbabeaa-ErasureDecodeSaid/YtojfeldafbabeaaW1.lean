/- The walks of the small functions of the field: each returns what the plain functions of GF say; no condition but that the bytes are bytes. -/
import Derived.Test.YtojfeldafbabeaaRows
import Derived.Test.YtojfeldafbabeaaGF
import Derived.WalkKit
import Derived.Lib.Hide
import Derived.WalkSpells
import Derived.WalkLawsBesides
set_option linter.unusedVariables false
set_option linter.unusedSimpArgs false
set_option linter.unnecessarySimpa false
namespace Go.Proofs.Ytojfeldafbabeaa
open Go.RowKit

theorem ret_u8 {a b : Int} (h : a = b) : Ending.returned (.int .u8 a) = .returned (.int .u8 b) := by rw [h]
theorem and1 (y : Nat) (hy : y < 256) : bits .and .u8 (y : Int) 1 = ((y % 2 : Nat) : Int) := by
  have := u8_and_nat y 1 hy (by decide)
  rw [Nat.and_one_is_mod] at this
  exact this
theorem xt_bits (x : Nat) (hx : x < 256) : bits .xor .u8 ((x : Int) * 2 % 256) ((x : Int) / 128 * 29) = ((GF.xt x : Nat) : Int) := by
  have h := u8_xor_nat (x * 2 % 256) (x / 128 * 29) (by omega) (by omega)
  have e1 : ((x * 2 % 256 : Nat) : Int) = (x : Int) * 2 % 256 := by omega
  have e2 : ((x / 128 * 29 : Nat) : Int) = (x : Int) / 128 * 29 := by omega
  rw [e1, e2] at h
  exact h

set_option maxHeartbeats 400000 in
theorem mul_any (a b : Nat) (w : World) (ha : a < 256) (hb : b < 256) :
    Calls Try.prog 39 #[.int .u8 a, .int .u8 b] w fun e w' => e = .returned (.int .u8 (GF.mul a b)) ∧ w = w' := by
  go_enter Try.func39, Try.ntmps39
  go_wp2
  go_loop [0, 1, 5, 6] (fun u v out high => ∃ x y z n : Nat, x < 256 ∧ y < 256 ∧ z < 256 ∧ y < 2 ^ n ∧ GF.go n x y z = GF.mul a b ∧ u = .int .u8 x ∧ v = .int .u8 y ∧ out = .int .u8 z) (fun u v out high => (intOf v).toNat)
  case atStart => exact ⟨a, b, 0, 8, ha, hb, by decide, hb, rfl, rfl, rfl, rfl⟩
  case round =>
    obtain ⟨x, y, z, n, hx, hy, hz, hn, hg, rfl, rfl, rfl⟩ := hrel
    have hgo := Lib.hid hg
    have hnn := Lib.hid hn
    have hb1 := and1 y hy
    have hb2 := Lib.hid (xt_bits x hx)
    have hb3 := Lib.hid (u8_xor_nat z x hz hx)
    clear hg hn
    by_cases hy0 : 0 < y
    · have hst := Lib.hid (GF.go_step hy0 hnn.out hgo.out)
      by_cases hodd : y % 2 = 1
      · have h1 : (((y % 2 : Nat) : Int) == 1) = true := by simp; omega
        go_wp2
        go_round
        case rel =>
          obtain ⟨m, hm, hgm⟩ := hst.out
          rw [if_pos hodd] at hgm
          exact ⟨GF.xt x, y / 2, z ^^^ x, m, GF.xt_lt hx, by omega, GF.xor_lt hz hx, hm, hgm, by rw [hb2.out], by go_num, by rw [hb3.out]⟩
        case measure => simp [intOf]; omega
      · have h1 : (((y % 2 : Nat) : Int) == 1) = false := by simp; omega
        go_wp2
        go_round
        case rel =>
          obtain ⟨m, hm, hgm⟩ := hst.out
          rw [if_neg hodd] at hgm
          exact ⟨GF.xt x, y / 2, z, m, GF.xt_lt hx, by omega, hz, hm, hgm, by rw [hb2.out], by go_num, rfl⟩
        case measure => simp [intOf]; omega
    · have hr := Lib.hid (show z = GF.mul a b by rw [← hgo.out, show y = 0 by omega, GF.go_zero])
      go_wp2
      go_ret
      exact ⟨ret_u8 (by rw [← hr.out]), rfl⟩


theorem wraps_i64 (n : Int) (h₀ : 0 ≤ n) (h₁ : n < 2 ^ 62) : IntKind.i64.wrap n = n := IntWalk.i64_in _ (by omega)
theorem i64_xor_nat (a b : Nat) (ha : a < 2 ^ 62) (hb : b < 2 ^ 62) : bits .xor .i64 (a : Int) (b : Int) = ((a ^^^ b : Nat) : Int) := by
  have ha' : a % 2 ^ 64 = a := Nat.mod_eq_of_lt (by omega)
  have hb' : b % 2 ^ 64 = b := Nat.mod_eq_of_lt (by omega)
  have e : (BitVec.ofNat 64 a ^^^ BitVec.ofNat 64 b).toNat = a ^^^ b := by rw [BitVec.toNat_xor, BitVec.toNat_ofNat, BitVec.toNat_ofNat, ha', hb']
  simp only [bits, IntKind.bits, BitVec.ofInt_natCast]
  have := Nat.xor_lt_two_pow ha hb
  refine Eq.trans (congrArg (fun n : Nat => IntKind.i64.wrap (n : Int)) e) ?_
  exact wraps_i64 _ (Int.natCast_nonneg _) (by exact_mod_cast this)

set_option maxHeartbeats 400000 in
set_option maxRecDepth 100000 in
theorem refMul_any (a b : Nat) (w : World) (ha : a < 256) (hb : b < 256) :
    Calls Try.prog 20 #[.int .u8 a, .int .u8 b] w fun e w' => e = .returned (.int .u8 (GF.mul a b)) ∧ w = w' := by
  go_enter Try.func20, Try.ntmps20
  go_wp2
  go_loop [5, 6, 7] (fun out u i => ∃ k x z : Nat, k ≤ 8 ∧ x < 256 ∧ z < 256 ∧ GF.go (8 - k) x (b / 2 ^ k) z = GF.mul a b ∧ u = .int .i64 x ∧ out = .int .i64 z ∧ i = .int .i64 k) (fun out u i => 8 - (intOf i).toNat)
  case atStart => exact ⟨0, a, 0, by omega, ha, by omega, by simp [GF.mul], rfl, rfl, rfl⟩
  case round =>
    obtain ⟨k, x, z, hk, hx, hz, hg, rfl, rfl, rfl⟩ := hrel
    have hgo := Lib.hid hg
    clear hg
    have hwr : IntKind.u64.wrap (k : Int) = k := IntWalk.u64_in _ (by omega)
    have hlt : b / 2 ^ k < 256 := Nat.lt_of_le_of_lt (Nat.div_le_self _ _) hb
    have hb1' := and1 (b / 2 ^ k) hlt
    rw [show ((b / 2 ^ k : Nat) : Int) = (b : Int) / 2 ^ k from by simp] at hb1'
    have hb1 := Lib.hid hb1'
    clear hb1'
    have hb2 := Lib.hid (i64_xor_nat z x (by omega) (by omega))
    have hb3 := Lib.hid (i64_xor_nat (2 * x) 285 (by omega) (by omega))
    have hxt := Lib.hid (GF.xt_ref x hx)
    have hxl := Lib.hid (GF.xt_lt hx)
    by_cases hk8 : k < 8
    · have hgs := Lib.hid (show GF.go (8 - (k + 1)) (GF.xt x) (b / 2 ^ (k + 1)) (if b / 2 ^ k % 2 = 1 then z ^^^ x else z) = GF.mul a b by
        rw [← hgo.out, show 8 - k = (8 - (k + 1)) + 1 by omega, Nat.pow_succ, ← Nat.div_div_eq_div_mul]; rfl)
      by_cases hodd : b / 2 ^ k % 2 = 1
      · have h1 : (bits BinOp.and IntKind.u8 ((b : Int) / 2 ^ k) 1 == 1) = true := by rw [hb1.out, beq_iff_eq]; omega
        by_cases hge : 256 ≤ 2 * x
        all_goals
          go_wp2_with fail
          go_round
          case rel =>
            have h2 := hgs.out
            have h3 := hxt.out
            rw [if_pos hodd] at h2
            first | rw [if_pos hge] at h3 | rw [if_neg hge] at h3
            exact ⟨k + 1, GF.xt x, z ^^^ x, by omega, hxl.out, GF.xor_lt hz hx, h2, by rw [h3]; first | exact congrArg _ hb3.out | go_num, by rw [hb2.out], by go_num⟩
          case measure => simp [intOf]; omega
      · have h1 : (bits BinOp.and IntKind.u8 ((b : Int) / 2 ^ k) 1 == 1) = false := by rw [hb1.out, beq_eq_false_iff_ne]; omega
        by_cases hge : 256 ≤ 2 * x
        all_goals
          go_wp2_with fail
          go_round
          case rel =>
            have h2 := hgs.out
            have h3 := hxt.out
            rw [if_neg hodd] at h2
            first | rw [if_pos hge] at h3 | rw [if_neg hge] at h3
            exact ⟨k + 1, GF.xt x, z, by omega, hxl.out, hz, h2, by rw [h3]; first | exact congrArg _ hb3.out | go_num, rfl, by go_num⟩
          case measure => simp [intOf]; omega
    · have hr := Lib.hid (show z = GF.mul a b by rw [← hgo.out, show 8 - k = 0 by omega]; rfl)
      have hu8 : IntKind.u8.wrap (z : Int) = z := IntWalk.u8_in _ (by omega)
      go_wp2_with fail
      go_ret
      exact ⟨ret_u8 (by rw [← hr.out]), rfl⟩


theorem i64_and1 (n : Int) : bits .and .i64 n 1 = n % 2 := by
  have h := IntKind.wrap_i64 n
  unfold bits
  show IntKind.i64.wrap ((BitVec.ofInt 64 n &&& 1#64).toNat : Int) = n % 2
  rw [BitVec.toNat_and]
  simp only [BitVec.toNat_ofNat]
  rw [show 1 % 2 ^ 64 = 1 from rfl, Nat.and_one_is_mod]
  rw [IntWalk.i64_in _ (by omega), BitVec.toNat_ofInt]
  omega

set_option maxHeartbeats 400000 in
theorem power_any (a n : Nat) (w : World) (ha : a < 256) (hn : n < 256) :
    Calls Try.prog 43 #[.int .u8 a, .int .i64 n] w fun e w' => e = .returned (.int .u8 (GF.pw a n)) ∧ w = w' := by
  go_enter Try.func43, Try.ntmps43
  go_wp2_with fail
  go_loop [0, 1, 5] (fun u v out => ∃ x y z f : Nat, x < 256 ∧ y < 256 ∧ z < 256 ∧ y < 2 ^ f ∧ GF.sq f x y z = GF.pw a n ∧ u = .int .u8 x ∧ v = .int .i64 y ∧ out = .int .u8 z) (fun u v out => (intOf v).toNat)
  case atStart => exact ⟨a, n, 1, 8, ha, hn, by decide, hn, by rw [GF.sq_spec 8 a n 1 ha (by decide) hn, GF.one_mul (GF.pw_lt n)], rfl, rfl, rfl⟩
  case round =>
    obtain ⟨x, y, z, f, hx, hy, hz, hf, hg, rfl, rfl, rfl⟩ := hrel
    have hgo := Lib.hid hg
    have hff := Lib.hid hf
    clear hg hf
    by_cases hy0 : 0 < y
    · have hst := Lib.hid (GF.sq_step hy0 hff.out hgo.out)
      by_cases hodd : y % 2 = 1
      · have h1 : (bits BinOp.and IntKind.i64 (y : Int) 1 == 1) = true := by rw [i64_and1, beq_iff_eq]; omega
        go_wp2_with (go_at_call 39; refine (mul_any _ _ _ (by assumption) (by assumption)).mono ?_; rintro e w' ⟨rfl, rfl⟩)
        go_round
        case rel =>
          obtain ⟨m, hm, hgm⟩ := hst.out
          rw [if_pos hodd] at hgm
          exact ⟨GF.mul x x, y / 2, GF.mul z x, m, GF.mul_lt hx, by omega, GF.mul_lt hz, hm, hgm, rfl, by go_num, rfl⟩
        case measure => simp [intOf]; omega
      · have h1 : (bits BinOp.and IntKind.i64 (y : Int) 1 == 1) = false := by rw [i64_and1, beq_eq_false_iff_ne]; omega
        go_wp2_with (go_at_call 39; refine (mul_any _ _ _ (by assumption) (by assumption)).mono ?_; rintro e w' ⟨rfl, rfl⟩)
        go_round
        case rel =>
          obtain ⟨m, hm, hgm⟩ := hst.out
          rw [if_neg hodd] at hgm
          exact ⟨GF.mul x x, y / 2, z, m, GF.mul_lt hx, by omega, hz, hm, hgm, rfl, by go_num, rfl⟩
        case measure => simp [intOf]; omega
    · have hr := Lib.hid (show z = GF.pw a n by
        rw [← hgo.out, GF.sq_spec f x y z hx hz hff.out, show y = 0 by omega]; exact (GF.mul_one z hz).symm)
      go_wp2_with fail
      go_ret
      exact ⟨ret_u8 (by rw [← hr.out]), rfl⟩

end Go.Proofs.Ytojfeldafbabeaa
