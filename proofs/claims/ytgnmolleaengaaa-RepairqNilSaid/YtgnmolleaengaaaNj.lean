/- The walks of the reference's Gcd, Div, lowest and Make. -/
import Derived.Test.YtgnmolleaengaaaNi
import Derived.Deep.LoopGhost
set_option linter.unusedVariables false
set_option linter.unusedSimpArgs false
set_option linter.unnecessarySimpa false
namespace Go.Proofs.Ytgnmolleaengaaa
open Go Go.RowKit

theorem climb (x : Nat) : clen (limb x) ≤ 512 := by rw [clen_limb]; split <;> omega
theorem climb' (x : Nat) : clen (limb x) ≤ 5000 := by have := climb x; omega
theorem limb_len0 (x : Nat) : ((limb x).length : Int) = if x = 0 then 0 else 1 := by rw [limb_len]; split <;> rfl

set_option maxRecDepth 20000 in
set_option maxHeartbeats 1000000 in
theorem rgcd_as {w : World} {v u : Value} {x y : Nat} (h : Rd eU w v (limb x)) (h2 : Rd eU w u (limb y)) (hx : x < 4294967296) (hy : y < 4294967296) :
    Calls Try.prog 42 #[v, u] w fun e w' => ∃ a c, e = .returned (.tuple #[.slice a (limb (Nat.gcd x y)).length c, .int .i64 0]) ∧ Ru w' (.slice a (limb (Nat.gcd x y)).length c) (limb (Nat.gcd x y)) ∧ Below w.heap.size w w' := by
  have HR := Lib.hid h
  have HR2 := Lib.hid h2
  have HL := Lib.hid (climb x)
  have HM := Lib.hid (climb y)
  have HL' := Lib.hid (climb' x)
  have HM' := Lib.hid (climb' y)
  have HTX := Lib.hid (trim_limb x)
  have HTY := Lib.hid (trim_limb y)
  obtain ⟨a, cap, rfl, hlen⟩ := h.open
  obtain ⟨a2, cap2, rfl, hlen2⟩ := h2.open
  obtain ⟨G, hG⟩ : ∃ g, Nat.gcd x y = g := ⟨_, rfl⟩
  rw [hG]
  have HG := Lib.hid hG
  obtain ⟨X, hX⟩ : ∃ L, limb x = L := ⟨_, rfl⟩
  obtain ⟨Y, hY⟩ : ∃ L, limb y = L := ⟨_, rfl⟩
  rw [hX] at HR HL HL' HTX hlen ⊢
  rw [hY] at HR2 HM HM' HTY hlen2 ⊢
  have HX := Lib.hid hX
  have HY := Lib.hid hY
  clear h h2 hX hY hG
  go_enter Try.func42, Try.ntmps42
  go_wp2_with (first
    | (go_at_call 63; (with_reducible refine (rlarge_as HR.out HL.out).mono ?_); rintro e w1 ⟨rfl, hb⟩; have HB := Lib.hid hb; have HQ2 := Lib.hid (HR2.out.keep hb); have HQ1 := Lib.hid (HR.out.keep hb); clear hb)
    | (go_at_call 63; (with_reducible refine (rlarge_as HQ2.out HM.out).mono ?_); rintro e w2 ⟨rfl, hb⟩; have HB2 := Lib.hid (HB.out.trans (hb.mono HB.out.size)); have HP2 := Lib.hid (HQ2.out.keep hb); have HP1 := Lib.hid (HQ1.out.keep hb); clear hb)
    | (go_at_call 41; (with_reducible refine (rtrim_any HP1.out HL'.out).mono ?_); rintro e w3 ⟨p1, s1, rfl, ht, hb⟩; rw [HTX.out] at ht ⊢; have HT := Lib.hid ht; have HB3 := Lib.hid (HB2.out.trans (hb.mono HB2.out.size)); have HO2 := Lib.hid (HP2.out.keep hb); clear ht hb)
    | (go_at_call 41; (with_reducible refine (rtrim_any HO2.out HM'.out).mono ?_); rintro e w4 ⟨p2, s2, rfl, ht, hb⟩; rw [HTY.out] at ht ⊢; have HT2 := Lib.hid ht; have HT1 := Lib.hid (HT.out.keep hb); have HB4 := Lib.hid (HB3.out.trans (hb.mono HB3.out.size)); clear ht hb))
  have HST := Lib.hid (show Ru w4 (.slice p1 (limb x).length s1) (limb x) ∧ Ru w4 (.slice p2 (limb y).length s2) (limb y) by rw [HX.out, HY.out]; exact ⟨HT1.out, HT2.out⟩)
  rw [← HX.out, ← HY.out]
  go_loopg [6, 7] y (fun gk s6 s7 wr => ∃ (p : Nat) (pa qa : Option Addr) (pc qc : Nat), s6 = .slice pa (limb p).length pc ∧ s7 = .slice qa (limb gk).length qc ∧ p < 4294967296 ∧ gk < 4294967296 ∧ Hid (Nat.gcd p gk = G) ∧ Hid (Ru wr (.slice pa (limb p).length pc) (limb p)) ∧ Hid (Ru wr (.slice qa (limb gk).length qc) (limb gk)) ∧ Hid (Below w.heap.size w wr))
  case atStart => exact ⟨x, _, _, _, _, rfl, rfl, hx, hy, HG, Lib.hid HST.out.1, Lib.hid HST.out.2, HB4⟩
  case round =>
    obtain ⟨p, pa, qa, pc, qc, rfl, rfl, hp, hq, HGP, HP, HQ, HBW⟩ := hrel
    clear HST HT1 HT2
    by_cases h0 : gk = 0
    · subst h0
      have e : Nat.gcd p 0 = p := Nat.gcd_zero_right p
      have HE := Lib.hid (show p = G by rw [← HGP.out, e])
      have hl0 : (limb 0).length = 0 := rfl
      rw [hl0] at HQ ⊢
      clear hl0
      go_wp2_with fail
      go_ret2
      exact ⟨_, _, by rw [← HE.out]; rfl, by rw [← HE.out]; exact HP.out, HBW.out⟩
    · have hq0 : 0 < gk := by omega
      have hll : (limb gk).length = 1 := by rw [limb_len, if_neg h0]
      have HQR := Lib.hid HQ.out.rd
      have HHP := Lib.hid hp
      have HHQ := Lib.hid hq
      have HH0 := Lib.hid hq0
      rw [hll] at HQR ⊢
      go_wp2_with (first
        | (go_at_call 64; (with_reducible refine (rdivide_as HP.out.rd HQR.out HHP.out HHQ.out HH0.out).mono ?_); rintro e w5 ⟨a5, c5, a6, c6, rfl, k1, k2, hb⟩; have HK2 := Lib.hid k2; have HQ2 := Lib.hid (HQ.out.keep hb); have HB5 := Lib.hid (HBW.out.trans (hb.mono HBW.out.size)); clear k1 k2 hb))
      go_roundg (p % gk)
      case measure => exact Nat.mod_lt _ hq0
      case rel => exact ⟨gk, _, _, _, _, by rw [hll], rfl, hq, Nat.lt_trans (Nat.mod_lt _ hq0) hq, Lib.hid (by rw [← HGP.out, Nat.gcd_comm p gk, Nat.gcd_rec gk p, Nat.gcd_comm]), Lib.hid (by rw [hll] at HQ2 ⊢; exact HQ2.out), HK2, HB5⟩
end Go.Proofs.Ytgnmolleaengaaa
