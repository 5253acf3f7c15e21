/- The walks of the reference's Cmp, Valid and Before at jobs made of numbers; the walk of Before. -/
import Derived.Test.YtgnmolleaengaaaGreatS4
import Derived.Test.YtgnmolleaengaaaGreatJd
import Derived.Test.YtgnmolleaengaaaGreatQg
set_option linter.unusedVariables false
set_option linter.unusedSimpArgs false
set_option linter.unnecessarySimpa false
namespace Go.Proofs.YtgnmolleaengaaaGreat
open Go Go.RowKit

set_option maxRecDepth 20000 in
set_option maxHeartbeats 4000000 in
theorem rfcmp_as {w : World} {n1 n2 : Bool} {a1 b1 a2 b2 : Option Addr} {m1 c1 k1 d1 m2 c2 k2 d2 : Nat} {N1 D1 N2 D2 : List Nat}
    (h1 : Rd eU w (.slice a1 m1 c1) N1) (h2 : Rd eU w (.slice b1 k1 d1) D1) (h3 : Rd eU w (.slice a2 m2 c2) N2) (h4 : Rd eU w (.slice b2 k2 d2) D2)
    (l1 : Lims N1) (l2 : Lims D1) (l3 : Lims N2) (l4 : Lims D2) (v1 : validQ N1 D1 = true) (v2 : validQ N2 D2 = true) {r : Int} (hr : rordQ n1 n2 (mulL N1 D2) (mulL N2 D1) = r) :
    Calls Tryz.prog 29 #[fv n1 (.slice a1 m1 c1) (.slice b1 k1 d1), fv n2 (.slice a2 m2 c2) (.slice b2 k2 d2)] w fun e w' => e = .returned (.tuple #[.int .i64 r, .int .i64 0]) ∧ Below w.heap.size w w' := by
  obtain ⟨x1, x2, x3⟩ := valid_facts v1
  obtain ⟨y1, y2, y3⟩ := valid_facts v2
  have hM := ((Mm.start (S := []) w (by simp)).push w.heap.size #[.bool n1, .slice a1 m1 c1, .slice b1 k1 d1] 27 rfl).push (w.heap.size + 1) #[.bool n2, .slice a2 m2 c2, .slice b2 k2 d2] 27 (by simp)
  have HM := Lib.hid hM
  have hB0 : Below w.heap.size w ((w.alloc (.cells #[.bool n1, .slice a1 m1 c1, .slice b1 k1 d1] 27)).alloc (.cells #[.bool n2, .slice a2 m2 c2, .slice b2 k2 d2] 27)) := hM.only.below (by simp) (Nat.le_refl _)
  have HB0 := Lib.hid hB0
  have HR1 := Lib.hid (h1.below hB0 (Nat.le_refl _))
  have HR2 := Lib.hid (h2.below hB0 (Nat.le_refl _))
  have HR3 := Lib.hid (h3.below hB0 (Nat.le_refl _))
  have HR4 := Lib.hid (h4.below hB0 (Nat.le_refl _))
  have HL1 := Lib.hid l1
  have HL2 := Lib.hid l2
  have HL3 := Lib.hid l3
  have HL4 := Lib.hid l4
  have HV1 := Lib.hid v1
  have HV2 := Lib.hid v2
  have HRR := Lib.hid hr
  have HK := Lib.hid (show (clen N1 ≤ 128 ∧ clen D1 ≤ 128) ∧ clen N2 ≤ 128 ∧ clen D2 ≤ 128 from ⟨⟨x3, x2⟩, y3, y2⟩)
  have TOK := Lib.hid True.intro
  clear h1 h2 h3 h4 l1 l2 l3 l4 v1 v2 hr hM hB0 x1 x2 x3 y1 y2 y3
  go_enter Tryz.func29, Tryz.ntmps29
  go_wp2_with (first
    | (go_at_call 30; have _t := TOK; (with_reducible refine (rfvalid_any HR1.out HR2.out (by have := HK.out; omega) (by have := HK.out; omega) HV1.out).mono ?_); rintro e w1 ⟨rfl, hb⟩; have HM1 := Lib.hid (HM.out.call hb); have HB1 := Lib.hid (HB0.out.trans (hb.mono HB0.out.size)); have HS1 := Lib.hid (HR1.out.keep hb); have HS2 := Lib.hid (HR2.out.keep hb); have HS3 := Lib.hid (HR3.out.keep hb); have HS4 := Lib.hid (HR4.out.keep hb); obtain ⟨t0, t1, t2, -⟩ := HM1.out.lay3 0 rfl; have TOK2 := Lib.hid True.intro; clear hb TOK _t)
    | (go_at_call 30; have _t := TOK2; (with_reducible refine (rfvalid_any HS3.out HS4.out (by have := HK.out; omega) (by have := HK.out; omega) HV2.out).mono ?_); rintro e w2 ⟨rfl, hb⟩; have HM2 := Lib.hid (HM1.out.call hb); have HB2 := Lib.hid (HB1.out.trans (hb.mono HB1.out.size)); have HT1 := Lib.hid (HS1.out.keep hb); have HT2 := Lib.hid (HS2.out.keep hb); have HT3 := Lib.hid (HS3.out.keep hb); have HT4 := Lib.hid (HS4.out.keep hb); clear t0 t1 t2; obtain ⟨t0, t1, t2, -⟩ := HM2.out.lay3 0 rfl; obtain ⟨s0, s1, s2, -⟩ := HM2.out.lay3 1 rfl; clear hb TOK2 _t)
    | (go_at_call 50; (with_reducible refine (rorder_any HT1.out HT2.out HT3.out HT4.out HL1.out HL2.out HL3.out HL4.out (by have := HK.out; omega) (by have := HK.out; omega) HRR.out).mono ?_); rintro e w3 ⟨rfl, hb⟩; have HB3 := Lib.hid (HB2.out.trans (hb.mono HB2.out.size)); clear hb))
  go_ret2
  exact ⟨rfl, HB3.out⟩

theorem rordQ_small {n1 d1 n2 d2 : Nat} (h1 : n1 ≤ 4) (h2 : d1 ≤ 4) (h3 : n2 ≤ 4) (h4 : d2 ≤ 4) : rordQ false false (mulL (limb n1) (limb d2)) (mulL (limb n2) (limb d1)) = if n1 * d2 < n2 * d1 then -1 else if n2 * d1 < n1 * d2 then 1 else 0 := by
  have k1 : n1 * d2 ≤ 4 * 4 := Nat.mul_le_mul h1 h4
  have k2 : n2 * d1 ≤ 4 * 4 := Nat.mul_le_mul h3 h2
  rw [mulL_limb (by omega), mulL_limb (by omega)]
  unfold rordQ
  simp
  rw [cmpN_limb]

theorem rmake01 (w : World) : Calls Tryz.prog 27 #[.int .i64 0, .int .i64 1] w (FePost w 0 1) := by
  have := rfmake_as (n := 0) (d := 1) (by omega) (by omega) (by omega) w
  rw [show 0 / Nat.gcd 0 1 = 0 by decide, show 1 / Nat.gcd 0 1 = 1 by decide] at this
  exact this

set_option maxRecDepth 20000 in
set_option maxHeartbeats 4000000 in
theorem rvalid_as {w : World} {j : Jb} {an ad : Option Addr} {anc adc : Nat} (oj : OkJ j) (h1 : Rd eU w (.slice an (limb j.n).length anc) (limb j.n)) (h2 : Rd eU w (.slice ad (limb j.d).length adc) (limb j.d)) :
    Calls Tryz.prog 14 #[jv j (.slice an (limb j.n).length anc) (.slice ad (limb j.d).length adc)] w fun e w' => e = .returned (.bool true) ∧ Below w.heap.size w w' := by
  obtain ⟨⟨v1, v2⟩, ⟨f1, f2⟩, ⟨c1, c2⟩, ⟨r1, r2⟩, n1, d1, d2⟩ := oj
  have HL1 := Lib.hid (lims4 n1)
  have HL2 := Lib.hid (lims4 d2)
  have HL3 := Lib.hid (lims4 (show 0 ≤ 4 by omega))
  have HL4 := Lib.hid (lims4 (show 1 ≤ 4 by omega))
  have HV1 := Lib.hid (validJ (n := j.n) d1)
  have HV2 := Lib.hid (validJ (n := 0) (d := 1) (by omega))
  have HK1 := Lib.hid (show clen (limb j.n) ≤ 5000 by rw [clen_limb]; split <;> omega)
  have HK2 := Lib.hid (show clen (limb j.d) ≤ 5000 by rw [clen_limb]; split <;> omega)
  have hba := below_alloc w (.cells (jc j (.slice an (limb j.n).length anc) (.slice ad (limb j.d).length adc)) 29)
  have HBA := Lib.hid hba
  have HX := Lib.hid (Holds.new w (jc j (.slice an (limb j.n).length anc) (.slice ad (limb j.d).length adc)) 29)
  have HN := Lib.hid (h1.keep hba)
  have HD := Lib.hid (h2.keep hba)
  obtain ⟨c, hc⟩ : ∃ c, rordQ false false (mulL (limb j.n) (limb 1)) (mulL (limb 0) (limb j.d)) = c := ⟨_, rfl⟩
  have HC := Lib.hid hc
  have hc0 : 0 ≤ c := by
    rw [← hc, rordQ_small n1 d2 (by omega) (by omega)]
    split
    · omega
    · split <;> omega
  have hcc : decide (0 ≤ c) = true := by simpa using hc0
  obtain ⟨a1, a2, a3, a4, a5, a6⟩ := j
  simp only at v1 v2 f1 f2 c1 c2 r1 r2
  clear h1 h2 hba hc n1 d1 d2
  obtain ⟨s0, s1, s2, s3, s4, s5, s6, -⟩ := HX.out.lay7
  have b1 : decide (a1 < 0) = false := by simp; omega
  have b2 : decide (12 ≤ a1) = false := by simp; omega
  have b3 : decide (a2 < 0) = false := by simp; omega
  have b4 : decide (8 ≤ a2) = false := by simp; omega
  have b5 : decide (a3 < 1) = false := by simp; omega
  have b6 : decide (3 < a3) = false := by simp; omega
  have b7 : decide (a4 < 0) = false := by simp; omega
  have b8 : decide (8 < a4) = false := by simp; omega
  go_enter Tryz.func14, Tryz.ntmps14
  go_wp2_with (first
    | (go_at_call 30; (with_reducible refine (rfvalid_any HN.out HD.out HK1.out HK2.out HV1.out).mono ?_); rintro e w1 ⟨rfl, hb⟩; have HB1 := Lib.hid (HBA.out.trans (hb.mono HBA.out.size)); have HX1 := Lib.hid (HX.out.keep hb); have HN1 := Lib.hid (HN.out.keep hb); have HD1 := Lib.hid (HD.out.keep hb); clear hb)
    | (go_at_call 27; (with_reducible refine (rmake01 _).mono ?_); rintro e w2 ⟨p1, q1, p2, q2, rfl, k1, k2, hb⟩; have hx := below_alloc w2 (.cells #[.bool false, .slice p1 (limb 0).length q1, .slice p2 (limb 1).length q2] 27); have HB2 := Lib.hid ((HB1.out.trans (hb.mono HB1.out.size)).alloc (HB1.out.trans (hb.mono HB1.out.size)).size (.cells #[.bool false, .slice p1 (limb 0).length q1, .slice p2 (limb 1).length q2] 27)); have HX2 := Lib.hid ((HX1.out.keep hb).keep hx); have HN2 := Lib.hid ((HN1.out.keep hb).keep hx); have HD2 := Lib.hid ((HD1.out.keep hb).keep hx); have HZ1 := Lib.hid ((k1.keep hx).rd); have HZ2 := Lib.hid ((k2.keep hx).rd); have HY := Lib.hid (Holds.new w2 #[.bool false, .slice p1 (limb 0).length q1, .slice p2 (limb 1).length q2] 27); clear s0 s1 s2 s3 s4 s5 s6; obtain ⟨s0, s1, s2, s3, s4, s5, s6, -⟩ := HX2.out.lay7; obtain ⟨t0, t1, t2, -⟩ := HY.out.lay3; clear hb hx k1 k2)
    | (go_at_call 29; (with_reducible refine (rfcmp_as HN2.out HD2.out HZ1.out HZ2.out HL1.out HL2.out HL3.out HL4.out HV1.out HV2.out HC.out).mono ?_); rintro e w3 ⟨rfl, hb⟩; have HB3 := Lib.hid (HB2.out.trans (hb.mono HB2.out.size)); clear hb))
  go_ret
  exact ⟨rfl, HB3.out⟩
end Go.Proofs.YtgnmolleaengaaaGreat
