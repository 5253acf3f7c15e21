/- The walks of Before and of its reference. -/
import Derived.Test.YtgnmolleaengaaaGreatS5
set_option linter.unusedVariables false
set_option linter.unusedSimpArgs false
set_option linter.unnecessarySimpa false
namespace Go.Proofs.YtgnmolleaengaaaGreat
open Go Go.RowKit

def beforeF (a b : Jb) : Bool := decide (ordJ a b < 0)

set_option maxRecDepth 20000 in
set_option maxHeartbeats 4000000 in
theorem jbefore_as {w : World} {a b : Jb} {an ad bn bd : Option Addr} {anc adc bnc bdc : Nat} (oa : OkJ a) (ob : OkJ b)
    (h1 : Rd eU w (.slice an (limb a.n).length anc) (limb a.n)) (h2 : Rd eU w (.slice ad (limb a.d).length adc) (limb a.d)) (h3 : Rd eU w (.slice bn (limb b.n).length bnc) (limb b.n)) (h4 : Rd eU w (.slice bd (limb b.d).length bdc) (limb b.d)) {r : Bool} (hr : beforeF a b = r) :
    Calls Tryz.prog 8 #[jv a (.slice an (limb a.n).length anc) (.slice ad (limb a.d).length adc), jv b (.slice bn (limb b.n).length bnc) (.slice bd (limb b.d).length bdc)] w fun e w' => e = .returned (.bool r) ∧ Below w.heap.size w w' := by
  have hM := ((Mm.start (S := []) w (by simp)).push w.heap.size (jc a (.slice an (limb a.n).length anc) (.slice ad (limb a.d).length adc)) 29 rfl).push (w.heap.size + 1) (jc b (.slice bn (limb b.n).length bnc) (.slice bd (limb b.d).length bdc)) 29 (by simp)
  have HM := Lib.hid hM
  have hB0 := hM.only.below (B := w.heap.size) (by simp) (Nat.le_refl _)
  have HB0 := Lib.hid hB0
  have HN1 := Lib.hid (h1.below hB0 (Nat.le_refl _))
  have HD1 := Lib.hid (h2.below hB0 (Nat.le_refl _))
  have HN2 := Lib.hid (h3.below hB0 (Nat.le_refl _))
  have HD2 := Lib.hid (h4.below hB0 (Nat.le_refl _))
  have HOA := Lib.hid oa
  have HOB := Lib.hid ob
  obtain ⟨o, ho⟩ : ∃ o, ordJ a b = o := ⟨_, rfl⟩
  have HO := Lib.hid ho
  have hor : decide (o < 0) = r := by rw [← hr, ← ho]; rfl
  obtain ⟨a1, a2, a3, a4, a5, a6⟩ := a
  obtain ⟨b1, b2, b3, b4, b5, b6⟩ := b
  have TOK := Lib.hid True.intro
  clear h1 h2 h3 h4 hM hB0 ho hr oa ob
  go_enter Tryz.func8, Tryz.ntmps8
  go_wp2_with (first
    | (go_at_call 15; have _t := TOK; (with_reducible refine (valid_as HOA.out HN1.out HD1.out).mono ?_); rintro e w1 ⟨rfl, hb⟩; have HM1 := Lib.hid (HM.out.call hb); have HB1 := Lib.hid (HB0.out.trans (hb.mono HB0.out.size)); have HX1 := Lib.hid (HN1.out.keep hb); have HY1 := Lib.hid (HD1.out.keep hb); have HX2 := Lib.hid (HN2.out.keep hb); have HY2 := Lib.hid (HD2.out.keep hb); obtain ⟨t0, t1, t2, t3, t4, t5, t6, -⟩ := HM1.out.lay7 0 rfl; have TOK2 := Lib.hid True.intro; clear hb TOK _t)
    | (go_at_call 15; have _t := TOK2; (with_reducible refine (valid_as HOB.out HX2.out HY2.out).mono ?_); rintro e w2 ⟨rfl, hb⟩; have HM2 := Lib.hid (HM1.out.call hb); have HB2 := Lib.hid (HB1.out.trans (hb.mono HB1.out.size)); have HU1 := Lib.hid (HX1.out.keep hb); have HV1 := Lib.hid (HY1.out.keep hb); have HU2 := Lib.hid (HX2.out.keep hb); have HV2 := Lib.hid (HY2.out.keep hb); clear t0 t1 t2 t3 t4 t5 t6; obtain ⟨t0, t1, t2, t3, t4, t5, t6, -⟩ := HM2.out.lay7 0 rfl; obtain ⟨s0, s1, s2, s3, s4, s5, s6, -⟩ := HM2.out.lay7 1 rfl; clear hb TOK2 _t)
    | (go_at_call 28; (with_reducible refine (order_as HOA.out HOB.out HU1.out HV1.out HU2.out HV2.out HO.out).mono ?_); rintro e w3 ⟨rfl, hb⟩; have HB3 := Lib.hid (HB2.out.trans (hb.mono HB2.out.size)); clear hb))
  go_ret
  exact ⟨rfl, HB3.out⟩


set_option maxRecDepth 20000 in
set_option maxHeartbeats 8000000 in
theorem rbefore_as {w : World} {a b : Jb} {an ad bn bd : Option Addr} {anc adc bnc bdc : Nat} (oa : OkJ a) (ob : OkJ b)
    (h1 : Rd eU w (.slice an (limb a.n).length anc) (limb a.n)) (h2 : Rd eU w (.slice ad (limb a.d).length adc) (limb a.d)) (h3 : Rd eU w (.slice bn (limb b.n).length bnc) (limb b.n)) (h4 : Rd eU w (.slice bd (limb b.d).length bdc) (limb b.d)) {r : Bool} (hr : beforeF a b = r) :
    Calls Tryz.prog 9 #[jv a (.slice an (limb a.n).length anc) (.slice ad (limb a.d).length adc), jv b (.slice bn (limb b.n).length bnc) (.slice bd (limb b.d).length bdc)] w fun e w' => e = .returned (.bool r) ∧ Below w.heap.size w w' := by
  have HOA := Lib.hid oa
  have HOB := Lib.hid ob
  obtain ⟨v1, f1, k1, r1, n1, d1⟩ := oa
  obtain ⟨v2, f2, k2, r2, n2, d2⟩ := ob
  have HL1 := Lib.hid (lims4 n1)
  have HL2 := Lib.hid (lims4 d1.2)
  have HL3 := Lib.hid (lims4 n2)
  have HL4 := Lib.hid (lims4 d2.2)
  have HQ1 := Lib.hid (validJ (n := a.n) d1.1)
  have HQ2 := Lib.hid (validJ (n := b.n) d2.1)
  have hM := ((Mm.start (S := []) w (by simp)).push w.heap.size (jc a (.slice an (limb a.n).length anc) (.slice ad (limb a.d).length adc)) 29 rfl).push (w.heap.size + 1) (jc b (.slice bn (limb b.n).length bnc) (.slice bd (limb b.d).length bdc)) 29 (by simp)
  have HM := Lib.hid hM
  have hB0 := hM.only.below (B := w.heap.size) (by simp) (Nat.le_refl _)
  have HB0 := Lib.hid hB0
  have HN1 := Lib.hid (h1.below hB0 (Nat.le_refl _))
  have HD1 := Lib.hid (h2.below hB0 (Nat.le_refl _))
  have HN2 := Lib.hid (h3.below hB0 (Nat.le_refl _))
  have HD2 := Lib.hid (h4.below hB0 (Nat.le_refl _))
  obtain ⟨c, hc⟩ : ∃ c, cmpJ a b = c := ⟨_, rfl⟩
  have HC := Lib.hid (show rordQ false false (mulL (limb a.n) (limb b.d)) (mulL (limb b.n) (limb a.d)) = c by rw [rordQ_small n1 d1.2 n2 d2.2, ← hc]; rfl)
  have hcs : cmpJ b a = -c := by
    rw [← hc]; unfold cmpJ
    by_cases e1 : b.n * a.d < a.n * b.d
    · rw [if_pos e1, if_neg (by omega), if_pos e1]
    · rw [if_neg e1]
      by_cases e2 : a.n * b.d < b.n * a.d
      · rw [if_pos e2, if_pos e2]; omega
      · rw [if_neg e2, if_neg e2, if_neg e1]; omega
  unfold beforeF ordJ at hr
  rw [hcs] at hr
  have HR := Lib.hid hr
  have TOK := Lib.hid True.intro
  obtain ⟨a1, a2, a3, a4, a5, a6⟩ := a
  obtain ⟨b1, b2, b3, b4, b5, b6⟩ := b
  simp only at v1 f1 k1 r1 v2 f2 k2 r2 HR
  clear h1 h2 h3 h4 hM hB0 hc hr hcs n1 d1 n2 d2
  by_cases e1 : a3 = b3
  · subst e1
    have q1 : (a3 != a3) = false := by simp
    by_cases e2 : c = 0
    · subst e2
      by_cases e3 : a4 = b4
      · subst e3
        have q3 : (a4 != a4) = false := by simp
        by_cases e4 : a1 = b1
        · subst e4
          have q4 : (a1 != a1) = false := by simp
          (
            go_enter Tryz.func9, Tryz.ntmps9
            go_wp2_with (first
              | (go_at_call 14; have _t := TOK; (with_reducible refine (rvalid_as HOA.out HN1.out HD1.out).mono ?_); rintro e w1 ⟨rfl, hb⟩; have HM1 := Lib.hid (HM.out.call hb); have HB1 := Lib.hid (HB0.out.trans (hb.mono HB0.out.size)); have HX1 := Lib.hid (HN1.out.keep hb); have HY1 := Lib.hid (HD1.out.keep hb); have HX2 := Lib.hid (HN2.out.keep hb); have HY2 := Lib.hid (HD2.out.keep hb); obtain ⟨t0, t1, t2, t3, t4, t5, t6, -⟩ := HM1.out.lay7 0 rfl; have TOK2 := Lib.hid True.intro; clear hb TOK _t)
              | (go_at_call 14; have _t := TOK2; (with_reducible refine (rvalid_as HOB.out HX2.out HY2.out).mono ?_); rintro e w2 ⟨rfl, hb⟩; have HM2 := Lib.hid (HM1.out.call hb); have HB2 := Lib.hid (HB1.out.trans (hb.mono HB1.out.size)); have HU1 := Lib.hid (HX1.out.keep hb); have HV1 := Lib.hid (HY1.out.keep hb); have HU2 := Lib.hid (HX2.out.keep hb); have HV2 := Lib.hid (HY2.out.keep hb); clear t0 t1 t2 t3 t4 t5 t6; obtain ⟨t0, t1, t2, t3, t4, t5, t6, -⟩ := HM2.out.lay7 0 rfl; obtain ⟨s0, s1, s2, s3, s4, s5, s6, -⟩ := HM2.out.lay7 1 rfl; clear hb TOK2 _t)
              | (go_at_call 29; (with_reducible refine (rfcmp_as HU1.out HV1.out HU2.out HV2.out HL1.out HL2.out HL3.out HL4.out HQ1.out HQ2.out HC.out).mono ?_); rintro e w3 ⟨rfl, hb⟩; have HM3 := Lib.hid (HM2.out.call hb); have HB3 := Lib.hid (HB2.out.trans (hb.mono HB2.out.size)); clear t0 t1 t2 t3 t4 t5 t6 s0 s1 s2 s3 s4 s5 s6; obtain ⟨t0, t1, t2, t3, t4, t5, t6, -⟩ := HM3.out.lay7 0 rfl; obtain ⟨s0, s1, s2, s3, s4, s5, s6, -⟩ := HM3.out.lay7 1 rfl; clear hb))
            go_ret)
          exact ⟨ret_bool (by rw [← HR.out]; simp; try omega), HB3.out⟩
        · have q4 : (a1 != b1) = true := by simpa using e4
          (
            go_enter Tryz.func9, Tryz.ntmps9
            go_wp2_with (first
              | (go_at_call 14; have _t := TOK; (with_reducible refine (rvalid_as HOA.out HN1.out HD1.out).mono ?_); rintro e w1 ⟨rfl, hb⟩; have HM1 := Lib.hid (HM.out.call hb); have HB1 := Lib.hid (HB0.out.trans (hb.mono HB0.out.size)); have HX1 := Lib.hid (HN1.out.keep hb); have HY1 := Lib.hid (HD1.out.keep hb); have HX2 := Lib.hid (HN2.out.keep hb); have HY2 := Lib.hid (HD2.out.keep hb); obtain ⟨t0, t1, t2, t3, t4, t5, t6, -⟩ := HM1.out.lay7 0 rfl; have TOK2 := Lib.hid True.intro; clear hb TOK _t)
              | (go_at_call 14; have _t := TOK2; (with_reducible refine (rvalid_as HOB.out HX2.out HY2.out).mono ?_); rintro e w2 ⟨rfl, hb⟩; have HM2 := Lib.hid (HM1.out.call hb); have HB2 := Lib.hid (HB1.out.trans (hb.mono HB1.out.size)); have HU1 := Lib.hid (HX1.out.keep hb); have HV1 := Lib.hid (HY1.out.keep hb); have HU2 := Lib.hid (HX2.out.keep hb); have HV2 := Lib.hid (HY2.out.keep hb); clear t0 t1 t2 t3 t4 t5 t6; obtain ⟨t0, t1, t2, t3, t4, t5, t6, -⟩ := HM2.out.lay7 0 rfl; obtain ⟨s0, s1, s2, s3, s4, s5, s6, -⟩ := HM2.out.lay7 1 rfl; clear hb TOK2 _t)
              | (go_at_call 29; (with_reducible refine (rfcmp_as HU1.out HV1.out HU2.out HV2.out HL1.out HL2.out HL3.out HL4.out HQ1.out HQ2.out HC.out).mono ?_); rintro e w3 ⟨rfl, hb⟩; have HM3 := Lib.hid (HM2.out.call hb); have HB3 := Lib.hid (HB2.out.trans (hb.mono HB2.out.size)); clear t0 t1 t2 t3 t4 t5 t6 s0 s1 s2 s3 s4 s5 s6; obtain ⟨t0, t1, t2, t3, t4, t5, t6, -⟩ := HM3.out.lay7 0 rfl; obtain ⟨s0, s1, s2, s3, s4, s5, s6, -⟩ := HM3.out.lay7 1 rfl; clear hb))
            go_ret)
          exact ⟨ret_bool (by rw [← HR.out]; simp [e4]; try omega), HB3.out⟩
      · have q3 : (a4 != b4) = true := by simpa using e3
        (
          go_enter Tryz.func9, Tryz.ntmps9
          go_wp2_with (first
            | (go_at_call 14; have _t := TOK; (with_reducible refine (rvalid_as HOA.out HN1.out HD1.out).mono ?_); rintro e w1 ⟨rfl, hb⟩; have HM1 := Lib.hid (HM.out.call hb); have HB1 := Lib.hid (HB0.out.trans (hb.mono HB0.out.size)); have HX1 := Lib.hid (HN1.out.keep hb); have HY1 := Lib.hid (HD1.out.keep hb); have HX2 := Lib.hid (HN2.out.keep hb); have HY2 := Lib.hid (HD2.out.keep hb); obtain ⟨t0, t1, t2, t3, t4, t5, t6, -⟩ := HM1.out.lay7 0 rfl; have TOK2 := Lib.hid True.intro; clear hb TOK _t)
            | (go_at_call 14; have _t := TOK2; (with_reducible refine (rvalid_as HOB.out HX2.out HY2.out).mono ?_); rintro e w2 ⟨rfl, hb⟩; have HM2 := Lib.hid (HM1.out.call hb); have HB2 := Lib.hid (HB1.out.trans (hb.mono HB1.out.size)); have HU1 := Lib.hid (HX1.out.keep hb); have HV1 := Lib.hid (HY1.out.keep hb); have HU2 := Lib.hid (HX2.out.keep hb); have HV2 := Lib.hid (HY2.out.keep hb); clear t0 t1 t2 t3 t4 t5 t6; obtain ⟨t0, t1, t2, t3, t4, t5, t6, -⟩ := HM2.out.lay7 0 rfl; obtain ⟨s0, s1, s2, s3, s4, s5, s6, -⟩ := HM2.out.lay7 1 rfl; clear hb TOK2 _t)
            | (go_at_call 29; (with_reducible refine (rfcmp_as HU1.out HV1.out HU2.out HV2.out HL1.out HL2.out HL3.out HL4.out HQ1.out HQ2.out HC.out).mono ?_); rintro e w3 ⟨rfl, hb⟩; have HM3 := Lib.hid (HM2.out.call hb); have HB3 := Lib.hid (HB2.out.trans (hb.mono HB2.out.size)); clear t0 t1 t2 t3 t4 t5 t6 s0 s1 s2 s3 s4 s5 s6; obtain ⟨t0, t1, t2, t3, t4, t5, t6, -⟩ := HM3.out.lay7 0 rfl; obtain ⟨s0, s1, s2, s3, s4, s5, s6, -⟩ := HM3.out.lay7 1 rfl; clear hb))
          go_ret)
        exact ⟨ret_bool (by rw [← HR.out]; simp [e3]; try omega), HB3.out⟩
    · have q2 : (c != 0) = true := by simpa using e2
      (
        go_enter Tryz.func9, Tryz.ntmps9
        go_wp2_with (first
          | (go_at_call 14; have _t := TOK; (with_reducible refine (rvalid_as HOA.out HN1.out HD1.out).mono ?_); rintro e w1 ⟨rfl, hb⟩; have HM1 := Lib.hid (HM.out.call hb); have HB1 := Lib.hid (HB0.out.trans (hb.mono HB0.out.size)); have HX1 := Lib.hid (HN1.out.keep hb); have HY1 := Lib.hid (HD1.out.keep hb); have HX2 := Lib.hid (HN2.out.keep hb); have HY2 := Lib.hid (HD2.out.keep hb); obtain ⟨t0, t1, t2, t3, t4, t5, t6, -⟩ := HM1.out.lay7 0 rfl; have TOK2 := Lib.hid True.intro; clear hb TOK _t)
          | (go_at_call 14; have _t := TOK2; (with_reducible refine (rvalid_as HOB.out HX2.out HY2.out).mono ?_); rintro e w2 ⟨rfl, hb⟩; have HM2 := Lib.hid (HM1.out.call hb); have HB2 := Lib.hid (HB1.out.trans (hb.mono HB1.out.size)); have HU1 := Lib.hid (HX1.out.keep hb); have HV1 := Lib.hid (HY1.out.keep hb); have HU2 := Lib.hid (HX2.out.keep hb); have HV2 := Lib.hid (HY2.out.keep hb); clear t0 t1 t2 t3 t4 t5 t6; obtain ⟨t0, t1, t2, t3, t4, t5, t6, -⟩ := HM2.out.lay7 0 rfl; obtain ⟨s0, s1, s2, s3, s4, s5, s6, -⟩ := HM2.out.lay7 1 rfl; clear hb TOK2 _t)
          | (go_at_call 29; (with_reducible refine (rfcmp_as HU1.out HV1.out HU2.out HV2.out HL1.out HL2.out HL3.out HL4.out HQ1.out HQ2.out HC.out).mono ?_); rintro e w3 ⟨rfl, hb⟩; have HM3 := Lib.hid (HM2.out.call hb); have HB3 := Lib.hid (HB2.out.trans (hb.mono HB2.out.size)); clear t0 t1 t2 t3 t4 t5 t6 s0 s1 s2 s3 s4 s5 s6; obtain ⟨t0, t1, t2, t3, t4, t5, t6, -⟩ := HM3.out.lay7 0 rfl; obtain ⟨s0, s1, s2, s3, s4, s5, s6, -⟩ := HM3.out.lay7 1 rfl; clear hb))
        go_ret)
      exact ⟨ret_bool (by rw [← HR.out]; simp [e2]; try omega), HB3.out⟩
  · have q1 : (a3 != b3) = true := by simpa using e1
    (
      go_enter Tryz.func9, Tryz.ntmps9
      go_wp2_with (first
        | (go_at_call 14; have _t := TOK; (with_reducible refine (rvalid_as HOA.out HN1.out HD1.out).mono ?_); rintro e w1 ⟨rfl, hb⟩; have HM1 := Lib.hid (HM.out.call hb); have HB1 := Lib.hid (HB0.out.trans (hb.mono HB0.out.size)); have HX1 := Lib.hid (HN1.out.keep hb); have HY1 := Lib.hid (HD1.out.keep hb); have HX2 := Lib.hid (HN2.out.keep hb); have HY2 := Lib.hid (HD2.out.keep hb); obtain ⟨t0, t1, t2, t3, t4, t5, t6, -⟩ := HM1.out.lay7 0 rfl; have TOK2 := Lib.hid True.intro; clear hb TOK _t)
        | (go_at_call 14; have _t := TOK2; (with_reducible refine (rvalid_as HOB.out HX2.out HY2.out).mono ?_); rintro e w2 ⟨rfl, hb⟩; have HM2 := Lib.hid (HM1.out.call hb); have HB2 := Lib.hid (HB1.out.trans (hb.mono HB1.out.size)); have HU1 := Lib.hid (HX1.out.keep hb); have HV1 := Lib.hid (HY1.out.keep hb); have HU2 := Lib.hid (HX2.out.keep hb); have HV2 := Lib.hid (HY2.out.keep hb); clear t0 t1 t2 t3 t4 t5 t6; obtain ⟨t0, t1, t2, t3, t4, t5, t6, -⟩ := HM2.out.lay7 0 rfl; obtain ⟨s0, s1, s2, s3, s4, s5, s6, -⟩ := HM2.out.lay7 1 rfl; clear hb TOK2 _t)
        | (go_at_call 29; (with_reducible refine (rfcmp_as HU1.out HV1.out HU2.out HV2.out HL1.out HL2.out HL3.out HL4.out HQ1.out HQ2.out HC.out).mono ?_); rintro e w3 ⟨rfl, hb⟩; have HM3 := Lib.hid (HM2.out.call hb); have HB3 := Lib.hid (HB2.out.trans (hb.mono HB2.out.size)); clear t0 t1 t2 t3 t4 t5 t6 s0 s1 s2 s3 s4 s5 s6; obtain ⟨t0, t1, t2, t3, t4, t5, t6, -⟩ := HM3.out.lay7 0 rfl; obtain ⟨s0, s1, s2, s3, s4, s5, s6, -⟩ := HM3.out.lay7 1 rfl; clear hb))
      go_ret)
    exact ⟨ret_bool (by rw [← HR.out]; simp [e1]; try omega), HB2.out⟩
end Go.Proofs.YtgnmolleaengaaaGreat
