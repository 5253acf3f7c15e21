/- The walks of the reference's Div, lowest, size and Make. -/
import Derived.Test.YtgnmolleaengaaaNj
set_option linter.unusedVariables false
set_option linter.unusedSimpArgs false
set_option linter.unnecessarySimpa false
namespace Go.Proofs.Ytgnmolleaengaaa
open Go Go.RowKit

set_option maxRecDepth 20000 in
set_option maxHeartbeats 1000000 in
theorem rdiv_as {w : World} {v u : Value} {x y : Nat} (h : Rd eU w v (limb x)) (h2 : Rd eU w u (limb y)) (hx : x < 4294967296) (hy : y < 4294967296) (hy0 : 0 < y) :
    Calls Try.prog 43 #[v, u] w fun e w' => ∃ a c a2 n2 c2, e = .returned (.tuple #[.slice a (limb (x / y)).length c, .slice a2 n2 c2, .int .i64 0]) ∧ Ru w' (.slice a (limb (x / y)).length c) (limb (x / y)) ∧ Below w.heap.size w w' := by
  have HR := Lib.hid h
  have HR2 := Lib.hid h2
  have HL := Lib.hid (climb x)
  have HM := Lib.hid (climb y)
  have HL' := Lib.hid (climb' x)
  have HM' := Lib.hid (climb' y)
  have HTX := Lib.hid (trim_limb x)
  have HTY := Lib.hid (trim_limb y)
  have HYL := Lib.hid (show (limb y).length = 1 by rw [limb_len, if_neg (by omega)])
  obtain ⟨a, cap, rfl, hlen⟩ := h.open
  obtain ⟨a2, cap2, rfl, hlen2⟩ := h2.open
  have HHX := Lib.hid hx
  have HHY := Lib.hid hy
  have HH0 := Lib.hid hy0
  have TOK := Lib.hid True.intro
  rw [HYL.out] at HR2 ⊢
  clear h h2
  go_enter Try.func43, Try.ntmps43
  go_wp2_with (first
    | (go_at_call 63; (with_reducible refine (rlarge_as HR.out HL.out).mono ?_); rintro e w1 ⟨rfl, hb⟩; have HB := Lib.hid hb; have HQ2 := Lib.hid (HR2.out.keep hb); have HQ1 := Lib.hid (HR.out.keep hb); clear hb)
    | (go_at_call 63; (with_reducible refine (rlarge_as HQ2.out HM.out).mono ?_); rintro e w2 ⟨rfl, hb⟩; have HB2 := Lib.hid (HB.out.trans (hb.mono HB.out.size)); have HP2 := Lib.hid (HQ2.out.keep hb); have HP1 := Lib.hid (HQ1.out.keep hb); clear hb)
    | (go_at_call 41; (have _t := TOK; (with_reducible refine (rtrim_any HP2.out HM'.out).mono ?_); rintro e w3 ⟨p1, s1, rfl, ht, hb⟩; rw [HTY.out, HYL.out]; have HB3 := Lib.hid (HB2.out.trans (hb.mono HB2.out.size)); have HO2 := Lib.hid (HP2.out.keep hb); have HO1 := Lib.hid (HP1.out.keep hb); clear ht hb TOK _t))
    | (go_at_call 41; (with_reducible refine (rtrim_any HO1.out HL'.out).mono ?_); rintro e w4 ⟨p2, s2, rfl, ht, hb⟩; rw [HTX.out] at ht ⊢; have HT := Lib.hid ht; have HB4 := Lib.hid (HB3.out.trans (hb.mono HB3.out.size)); have HV2 := Lib.hid (HO2.out.keep hb); clear ht hb)
    | (go_at_call 41; (with_reducible refine (rtrim_any HV2.out HM'.out).mono ?_); rintro e w5 ⟨p3, s3, rfl, ht, hb⟩; rw [HTY.out, HYL.out] at ht; rw [HTY.out, HYL.out]; have HT2 := Lib.hid ht; have HT1 := Lib.hid (HT.out.keep hb); have HB5 := Lib.hid (HB4.out.trans (hb.mono HB4.out.size)); clear ht hb)
    | (go_at_call 64; (with_reducible refine (rdivide_as HT1.out.rd HT2.out.rd HHX.out HHY.out HH0.out).mono ?_); rintro e w6 ⟨a5, c5, a6, c6, rfl, k1, k2, hb⟩; have HK1 := Lib.hid k1; have HB6 := Lib.hid (HB5.out.trans (hb.mono HB5.out.size)); clear k1 k2 hb))
  exact bodyPost_ret (v := .tuple #[.slice a5 (limb (x / y)).length c5, .slice a6 (limb (x % y)).length c6, .int .i64 0]) (by simp [results, Try.results43, go_sem]) rfl ⟨_, _, _, _, _, rfl, HK1.out, HB6.out⟩

/-- a fraction of small numbers: numerator n, denominator d -/
def FqPost (w : World) (n d : Nat) (e : Ending) (w' : World) : Prop := ∃ a c a2 c2, e = .returned (fv false (.slice a (limb n).length c) (.slice a2 (limb d).length c2)) ∧ Ru w' (.slice a (limb n).length c) (limb n) ∧ Ru w' (.slice a2 (limb d).length c2) (limb d) ∧ Below w.heap.size w w'
theorem one_limb (w : World) : Ru (w.alloc (.cells #[.int .u32 1] 76)) (.slice (some ⟨w.heap.size, 0, none⟩) 1 1) [1] := two_own _ _ _ _ _ (Rd.new (E := eU) w [1] (by simp) 76)

set_option maxRecDepth 20000 in
set_option maxHeartbeats 2000000 in
theorem rlowest_as {w : World} {v u : Value} {x y : Nat} (h : Rd eU w v (limb x)) (h2 : Rd eU w u (limb y)) (hx : x < 4294967296) (hy : y < 4294967296) (hy0 : 0 < y) :
    Calls Try.prog 26 #[.bool false, v, u] w (FqPost w (x / Nat.gcd x y) (y / Nat.gcd x y)) := by
  have HB0 := Lib.hid (Holds.new w #[.bool false, .slice none 0 0, .slice none 0 0] 31)
  have HTY0 := Lib.hid (TyB.new w #[.bool false, .slice none 0 0, .slice none 0 0] 31)
  have hba := below_alloc w (.cells #[.bool false, .slice none 0 0, .slice none 0 0] 31)
  have HBA := Lib.hid hba
  have HR := Lib.hid (h.keep hba)
  have HR2 := Lib.hid (h2.keep hba)
  have HL' := Lib.hid (climb' x)
  have HM' := Lib.hid (climb' y)
  have HTX := Lib.hid (trim_limb x)
  have HTY := Lib.hid (trim_limb y)
  have HYL := Lib.hid (show (limb y).length = 1 by rw [limb_len, if_neg (by omega)])
  obtain ⟨a, cap, rfl, hlen⟩ := h.open
  obtain ⟨a2, cap2, rfl, hlen2⟩ := h2.open
  have HHX := Lib.hid hx
  have HHY := Lib.hid hy
  have HH0 := Lib.hid hy0
  clear h h2 hba
  by_cases hx0 : x = 0
  · subst hx0
    have hl0 : (limb 0).length = 0 := rfl
    have e1 : (0 / Nat.gcd 0 y) = 0 := Nat.zero_div _
    have e2 : y / Nat.gcd 0 y = 1 := by rw [Nat.gcd_zero_left, Nat.div_self hy0]
    rw [e1, e2]
    rw [hl0] at HR ⊢
    rw [HYL.out] at HR2 ⊢
    clear e1 e2 hlen hlen2
    have HL0 := Lib.hid hl0
    clear hl0
    go_enter Try.func26, Try.ntmps26
    go_wp2_with (first
      | (go_at_call 41; (with_reducible refine (rtrim_any HR.out HL'.out).mono ?_); rintro e w1 ⟨p1, s1, rfl, ht, hb⟩; rw [HTX.out, HL0.out]; have HBB := Lib.hid hb; have HQ2 := Lib.hid (HR2.out.keep hb); have HH := Lib.hid (HB0.out.keep hb); clear ht hb)
      | (go_at_call 41; (with_reducible refine (rtrim_any HQ2.out HM'.out).mono ?_); rintro e w2 ⟨p2, s2, rfl, ht, hb⟩; rw [HTY.out, HYL.out]; have HBB2 := Lib.hid (HBB.out.trans (hb.mono HBB.out.size)); have HH2 := Lib.hid (HH.out.keep hb); have HH3 := Lib.hid (HH2.out.keep (below_alloc _ (.cells #[.int .u32 1] 76))); obtain ⟨c0, c1, c2, f0, f1, f2, cl⟩ := HH3.out.lay3; clear ht hb))
    have hbb3 := HBB2.out.trans ((below_alloc w2 (.cells #[.int .u32 1] 76)).mono HBB2.out.size)
    have hty := HTY0.out.keep hbb3
    obtain ⟨hp1, hp2⟩ := put3 HH3.out (HBA.out.trans (hbb3.mono HBA.out.size)) (Nat.le_refl _) (.bool false) (.slice none 0 0) (.slice (some ⟨w2.heap.size, 0, none⟩) 1 1)
    refine bodyPost_ret (v := fv false (.slice none 0 0) (.slice (some ⟨w2.heap.size, 0, none⟩) 1 1)) ?_ rfl ⟨none, 0, _, 1, rfl, ru_nil _, (one_limb w2).put3 hty (by decide) _ _ _, hp2⟩
    obtain ⟨d0, d1, d2, -⟩ := hp1.lay3
    clear c0 c1 c2 f0 f1 f2 cl
    simp [results, Try.results26, go_sem, d0, d1, d2]
  · obtain ⟨G, hG⟩ : ∃ g, Nat.gcd x y = g := ⟨_, rfl⟩
    have hG0 : 0 < G := by rw [← hG]; exact Nat.gcd_pos_of_pos_right x hy0
    have hGy : G < 4294967296 := by rw [← hG]; exact Nat.lt_of_le_of_lt (Nat.le_of_dvd hy0 (Nat.gcd_dvd_right x y)) hy
    have HG := Lib.hid hG
    have HXL := Lib.hid (show (limb x).length = 1 by rw [limb_len, if_neg hx0])
    have HGL := Lib.hid (show (limb G).length = 1 by rw [limb_len, if_neg (by omega)])
    have HGG := Lib.hid (show limb G = [G] by unfold limb; rw [if_neg (by omega)])
    have HHG := Lib.hid hGy
    have HHG0 := Lib.hid hG0
    rw [hG]
    rw [HXL.out] at HR ⊢
    rw [HYL.out] at HR2 ⊢
    clear hG hlen hlen2
    by_cases hG1 : 1 < G
    · have q1 : decide ((1 : Int) < (G : Int)) = true := by simp; omega
      go_enter Try.func26, Try.ntmps26
      go_wp2_with (first
        | (go_at_call 41; (with_reducible refine (rtrim_any HR.out HL'.out).mono ?_); rintro e w1 ⟨p1, s1, rfl, ht, hb⟩; rw [HTX.out, HXL.out] at ht; rw [HTX.out, HXL.out]; have HT := Lib.hid ht; have HBB := Lib.hid hb; have HQ2 := Lib.hid (HR2.out.keep hb); have HH := Lib.hid (HB0.out.keep hb); clear ht hb)
        | (go_at_call 41; (with_reducible refine (rtrim_any HQ2.out HM'.out).mono ?_); rintro e w2 ⟨p2, s2, rfl, ht, hb⟩; rw [HTY.out, HYL.out] at ht; rw [HTY.out, HYL.out]; have HT2 := Lib.hid ht; have HT1 := Lib.hid (HT.out.keep hb); have HBB2 := Lib.hid (HBB.out.trans (hb.mono HBB.out.size)); have HH2 := Lib.hid (HH.out.keep hb); clear ht hb)
        | (go_at_call 42; (with_reducible refine (rgcd_as HT1.out.rd HT2.out.rd HHX.out HHY.out).mono ?_); rintro e w3 ⟨p3, s3, rfl, hg, hb⟩; rw [HG.out, HGL.out] at hg; rw [HG.out, HGL.out]; have HU3 := Lib.hid hg; have HU2 := Lib.hid (HT2.out.keep hb); have HU1 := Lib.hid (HT1.out.keep hb); have HBB3 := Lib.hid (HBB2.out.trans (hb.mono HBB2.out.size)); have HH3 := Lib.hid (HH2.out.keep hb); have hgl := hg.rd; rw [HGG.out] at hgl; obtain ⟨gb, go, rfl, -, hgc⟩ := hgl.limb (i := 0) (x := G) rfl; rw [Nat.add_zero] at hgc; clear hg hb hgl)
        | (go_at_call 43; (with_reducible refine (rdiv_as HU1.out.rd HU3.out.rd HHX.out HHG.out HHG0.out).mono ?_); rintro e w4 ⟨p4, s4, p5, n5, s5, rfl, hd, hb⟩; have HV1 := Lib.hid hd; have HV2 := Lib.hid (HU2.out.keep hb); have HV3 := Lib.hid (HU3.out.keep hb); have HBB4 := Lib.hid (HBB3.out.trans (hb.mono HBB3.out.size)); have HH4 := Lib.hid (HH3.out.keep hb); clear hd hb)
        | (go_at_call 43; (with_reducible refine (rdiv_as HV2.out.rd HV3.out.rd HHY.out HHG.out HHG0.out).mono ?_); rintro e w5 ⟨p6, s6, p7, n7, s7, rfl, hd, hb⟩; have HW2 := Lib.hid hd; have HW1 := Lib.hid (HV1.out.keep hb); have HBB5 := Lib.hid (HBB4.out.trans (hb.mono HBB4.out.size)); have HH5 := Lib.hid (HH4.out.keep hb); obtain ⟨c0, c1, c2, f0, f1, f2, cl⟩ := HH5.out.lay3; clear hd hb))
      have hty := HTY0.out.keep HBB5.out
      obtain ⟨hp1, hp2⟩ := put3 HH5.out (HBA.out.trans (HBB5.out.mono HBA.out.size)) (Nat.le_refl _) (.bool false) (.slice p4 (limb (x / G)).length s4) (.slice p6 (limb (y / G)).length s6)
      refine bodyPost_ret (v := fv false (.slice p4 (limb (x / G)).length s4) (.slice p6 (limb (y / G)).length s6)) ?_ rfl ⟨_, _, _, _, rfl, HW1.out.put3 hty (by decide) _ _ _, HW2.out.put3 hty (by decide) _ _ _, hp2⟩
      obtain ⟨d0, d1, d2, -⟩ := hp1.lay3
      clear c0 c1 c2 f0 f1 f2 cl
      simp [results, Try.results26, go_sem, d0, d1, d2]
    · obtain rfl : G = 1 := by omega
      rw [Nat.div_one, Nat.div_one]
      go_enter Try.func26, Try.ntmps26
      go_wp2_with (first
        | (go_at_call 41; (with_reducible refine (rtrim_any HR.out HL'.out).mono ?_); rintro e w1 ⟨p1, s1, rfl, ht, hb⟩; rw [HTX.out, HXL.out] at ht; rw [HTX.out, HXL.out]; have HT := Lib.hid ht; have HBB := Lib.hid hb; have HQ2 := Lib.hid (HR2.out.keep hb); have HH := Lib.hid (HB0.out.keep hb); clear ht hb)
        | (go_at_call 41; (with_reducible refine (rtrim_any HQ2.out HM'.out).mono ?_); rintro e w2 ⟨p2, s2, rfl, ht, hb⟩; rw [HTY.out, HYL.out] at ht; rw [HTY.out, HYL.out]; have HT2 := Lib.hid ht; have HT1 := Lib.hid (HT.out.keep hb); have HBB2 := Lib.hid (HBB.out.trans (hb.mono HBB.out.size)); have HH2 := Lib.hid (HH.out.keep hb); clear ht hb)
        | (go_at_call 42; (with_reducible refine (rgcd_as HT1.out.rd HT2.out.rd HHX.out HHY.out).mono ?_); rintro e w3 ⟨p3, s3, rfl, hg, hb⟩; rw [HG.out, HGL.out] at hg; rw [HG.out, HGL.out]; have HU2 := Lib.hid (HT2.out.keep hb); have HU1 := Lib.hid (HT1.out.keep hb); have HBB3 := Lib.hid (HBB2.out.trans (hb.mono HBB2.out.size)); have HH3 := Lib.hid (HH2.out.keep hb); have hgl := hg.rd; rw [HGG.out] at hgl; obtain ⟨gb, go, rfl, -, hgc⟩ := hgl.limb (i := 0) (x := 1) rfl; rw [Nat.add_zero] at hgc; change w3.cell? ⟨gb, go, none⟩ = some (.int .u32 1) at hgc; obtain ⟨c0, c1, c2, f0, f1, f2, cl⟩ := HH3.out.lay3; clear hg hb hgl))
      have hty := HTY0.out.keep HBB3.out
      obtain ⟨hp1, hp2⟩ := put3 HH3.out (HBA.out.trans (HBB3.out.mono HBA.out.size)) (Nat.le_refl _) (.bool false) (.slice p1 1 s1) (.slice p2 1 s2)
      refine bodyPost_ret (v := fv false (.slice p1 1 s1) (.slice p2 1 s2)) ?_ rfl ⟨p1, s1, p2, s2, by rw [HXL.out, HYL.out], by rw [HXL.out]; exact HU1.out.put3 hty (by decide) _ _ _, by rw [HYL.out]; exact HU2.out.put3 hty (by decide) _ _ _, hp2⟩
      obtain ⟨d0, d1, d2, -⟩ := hp1.lay3
      clear c0 c1 c2 f0 f1 f2 cl
      simp [results, Try.results26, go_sem, d0, d1, d2]

theorem size_as {n : Nat} (hn : n < 4294967296) (w : World) : Calls Try.prog 28 #[.int .i64 n] w fun e w' => e = .returned (.int .u64 n) ∧ w = w' := by
  have q : decide ((n : Int) < 0) = false := by simp
  go_enter Try.func28, Try.ntmps28
  go_wp2_with fail
  go_ret
  exact ⟨rfl, rfl⟩

def FePost (w : World) (n d : Nat) (e : Ending) (w' : World) : Prop := ∃ a c a2 c2, e = .returned (.tuple #[fv false (.slice a (limb n).length c) (.slice a2 (limb d).length c2), .int .i64 0]) ∧ Ru w' (.slice a (limb n).length c) (limb n) ∧ Ru w' (.slice a2 (limb d).length c2) (limb d) ∧ Below w.heap.size w w'

set_option maxRecDepth 20000 in
set_option maxHeartbeats 2000000 in
theorem rfmake_as {n d : Nat} (hn : n < 4294967296) (hd : d < 4294967296) (hd0 : 0 < d) (w : World) :
    Calls Try.prog 15 #[.int .i64 n, .int .i64 d] w (FePost w (n / Nat.gcd n d) (d / Nat.gcd n d)) := by
  have HB0 := Lib.hid (Holds.new w #[.bool false, .slice none 0 0, .slice none 0 0] 31)
  have HTY0 := Lib.hid (TyB.new w #[.bool false, .slice none 0 0, .slice none 0 0] 31)
  have HBA := Lib.hid (below_alloc w (.cells #[.bool false, .slice none 0 0, .slice none 0 0] 31))
  have q0 : ((d : Int) == 0) = false := by simp; omega
  have q1 : decide ((n : Int) < 0) = false := by simp
  have q2 : decide ((d : Int) < 0) = false := by simp
  have HN := Lib.hid hn
  have HD := Lib.hid hd
  have HD0 := Lib.hid hd0
  obtain ⟨X, hX⟩ : ∃ x, n / Nat.gcd n d = x := ⟨_, rfl⟩
  obtain ⟨Y, hY⟩ : ∃ x, d / Nat.gcd n d = x := ⟨_, rfl⟩
  rw [hX, hY]
  have HX := Lib.hid hX
  have HY := Lib.hid hY
  clear hX hY
  go_enter Try.func15, Try.ntmps15
  go_wp2_with (first
    | (go_at_call 28; (with_reducible refine (size_as HN.out _).mono ?_); rintro e w1 ⟨rfl, rfl⟩)
    | (go_at_call 28; (with_reducible refine (size_as HD.out _).mono ?_); rintro e w1 ⟨rfl, rfl⟩)
    | (go_at_call 27; (with_reducible refine (rmake_as HN.out).mono ?_); rintro e w1 ⟨p1, s1, rfl, ht, hb⟩; have HT := Lib.hid ht; have HBB := Lib.hid hb; have HH := Lib.hid (HB0.out.keep hb); clear ht hb)
    | (go_at_call 27; (with_reducible refine (rmake_as HD.out).mono ?_); rintro e w2 ⟨p2, s2, rfl, ht, hb⟩; have HT2 := Lib.hid ht; have HT1 := Lib.hid (HT.out.keep hb); have HBB2 := Lib.hid (HBB.out.trans (hb.mono HBB.out.size)); have HH2 := Lib.hid (HH.out.keep hb); clear ht hb)
    | (go_at_call 26; (with_reducible refine (rlowest_as HT1.out.rd HT2.out.rd HN.out HD.out HD0.out).mono ?_); rintro e w3 ⟨p3, s3, p4, s4, rfl, k1, k2, hb⟩; rw [HX.out] at k1; rw [HY.out] at k2; rw [HX.out, HY.out]; have HK1 := Lib.hid k1; have HK2 := Lib.hid k2; have HBB3 := Lib.hid (HBB2.out.trans (hb.mono HBB2.out.size)); have HH3 := Lib.hid (HH2.out.keep hb); obtain ⟨c0, c1, c2, f0, f1, f2, cl⟩ := HH3.out.lay3; clear k1 k2 hb))
  have hty := HTY0.out.keep HBB3.out
  obtain ⟨hp1, hp2⟩ := put3 HH3.out (HBA.out.trans (HBB3.out.mono HBA.out.size)) (Nat.le_refl _) (.bool false) (.slice p3 (limb X).length s3) (.slice p4 (limb Y).length s4)
  refine bodyPost_ret (v := .tuple #[fv false (.slice p3 (limb X).length s3) (.slice p4 (limb Y).length s4), .int .i64 0]) ?_ rfl ⟨_, _, _, _, rfl, HK1.out.put3 hty (by decide) _ _ _, HK2.out.put3 hty (by decide) _ _ _, hp2⟩
  obtain ⟨d0, d1, d2, -⟩ := hp1.lay3
  clear c0 c1 c2 f0 f1 f2 cl
  simp [results, Try.results15, go_sem, d0, d1, d2]
end Go.Proofs.Ytgnmolleaengaaa
