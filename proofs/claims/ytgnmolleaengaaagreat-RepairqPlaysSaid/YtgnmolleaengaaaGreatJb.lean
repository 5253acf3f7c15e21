/- The walks of order, Valid, key and Key. -/
import Derived.Test.YtgnmolleaengaaaGreatJa
import Derived.Test.YtgnmolleaengaaaGreatNg
set_option linter.unusedVariables false
set_option linter.unusedSimpArgs false
set_option linter.unnecessarySimpa false
namespace Go.Proofs.YtgnmolleaengaaaGreat
open Go Go.RowKit

def OkJ (j : Jb) : Prop := (0 ≤ j.vol ∧ j.vol < 3) ∧ (0 ≤ j.frag ∧ j.frag < 3) ∧ (1 ≤ j.cls ∧ j.cls ≤ 3) ∧ (0 ≤ j.rem ∧ j.rem < 3) ∧ j.n ≤ 4 ∧ 1 ≤ j.d ∧ j.d ≤ 4
theorem jobF_ok (o : Opc) : OkJ (jobF o) := by
  unfold jobF
  have h1 : jobN o ≤ 4 := by unfold jobN; omega
  have h2 : 1 ≤ jobD o ∧ jobD o ≤ 4 := by unfold jobD; omega
  have hg := Nat.gcd_pos_of_pos_right (jobN o) (show 0 < jobD o by omega)
  have hle := Nat.gcd_le_right (jobN o) (show 0 < jobD o by omega)
  have k1 := Nat.div_le_self (jobN o) (Nat.gcd (jobN o) (jobD o))
  have k2 := Nat.div_le_self (jobD o) (Nat.gcd (jobN o) (jobD o))
  have k3 := Nat.div_pos hle hg
  exact ⟨by simp only; omega, by simp only; omega, by simp only; omega, by simp only; omega, by simp only; omega, by simp only; omega, by simp only; omega⟩

/-- the order of two risks -/
def cmpJ (a b : Jb) : Int := if a.n * b.d < b.n * a.d then -1 else if b.n * a.d < a.n * b.d then 1 else 0
def ordJ (a b : Jb) : Int :=
  if a.cls ≠ b.cls then a.cls - b.cls else if cmpJ b a ≠ 0 then cmpJ b a else if a.rem ≠ b.rem then a.rem - b.rem else if a.vol ≠ b.vol then a.vol - b.vol else a.frag - b.frag

theorem lims4 {n : Nat} (h : n ≤ 4) : Lims (limb n) := Lims.limb (by omega)
theorem validJ {n d : Nat} (hd : 1 ≤ d) : validQ (limb n) (limb d) = true := by
  unfold validQ
  rw [clen_limb, clen_limb, if_neg (show ¬ d = 0 by omega)]
  split <;> rfl
theorem ordQ_small {n1 d1 n2 d2 : Nat} (h1 : n1 ≤ 4) (h2 : d1 ≤ 4) (h3 : n2 ≤ 4) (h4 : d2 ≤ 4) : ordQ false false (limb n1) (limb d1) (limb n2) (limb d2) = if n1 * d2 < n2 * d1 then -1 else if n2 * d1 < n1 * d2 then 1 else 0 := by
  unfold ordQ
  have k1 : n1 * d2 ≤ 4 * 4 := Nat.mul_le_mul h1 h4
  have k2 : n2 * d1 ≤ 4 * 4 := Nat.mul_le_mul h3 h2
  rw [mulL_limb (by omega), mulL_limb (by omega), cmpN_limb]
  simp


set_option maxRecDepth 20000 in
set_option maxHeartbeats 4000000 in
theorem order_as {w : World} {a b : Jb} {an ad bn bd : Option Addr} {anc adc bnc bdc : Nat} (oa : OkJ a) (ob : OkJ b)
    (h1 : Rd eU w (.slice an (limb a.n).length anc) (limb a.n)) (h2 : Rd eU w (.slice ad (limb a.d).length adc) (limb a.d)) (h3 : Rd eU w (.slice bn (limb b.n).length bnc) (limb b.n)) (h4 : Rd eU w (.slice bd (limb b.d).length bdc) (limb b.d)) {r : Int} (hr : ordJ a b = r) :
    Calls Tryz.prog 28 #[jv a (.slice an (limb a.n).length anc) (.slice ad (limb a.d).length adc), jv b (.slice bn (limb b.n).length bnc) (.slice bd (limb b.d).length bdc)] w fun e w' => e = .returned (.int .i64 r) ∧ Below w.heap.size w w' := by
  obtain ⟨v1, f1, c1, r1, n1, d1⟩ := oa
  obtain ⟨v2, f2, c2, r2, n2, d2⟩ := ob
  have HL1 := Lib.hid (lims4 n1)
  have HL2 := Lib.hid (lims4 d1.2)
  have HL3 := Lib.hid (lims4 n2)
  have HL4 := Lib.hid (lims4 d2.2)
  have HV1 := Lib.hid (validJ (n := a.n) d1.1)
  have HV2 := Lib.hid (validJ (n := b.n) d2.1)
  have hM := ((Mm.start (S := []) w (by simp)).push w.heap.size (jc a (.slice an (limb a.n).length anc) (.slice ad (limb a.d).length adc)) 29 rfl).push (w.heap.size + 1) (jc b (.slice bn (limb b.n).length bnc) (.slice bd (limb b.d).length bdc)) 29 (by simp)
  have HM := Lib.hid hM
  have hB0 := hM.only.below (B := w.heap.size) (by simp) (Nat.le_refl _)
  have HB0 := Lib.hid hB0
  have HN1 := Lib.hid (h1.below hB0 (Nat.le_refl _))
  have HD1 := Lib.hid (h2.below hB0 (Nat.le_refl _))
  have HN2 := Lib.hid (h3.below hB0 (Nat.le_refl _))
  have HD2 := Lib.hid (h4.below hB0 (Nat.le_refl _))
  obtain ⟨c, hc⟩ : ∃ c, cmpJ b a = c := ⟨_, rfl⟩
  have HC := Lib.hid (show ordQ false false (limb b.n) (limb b.d) (limb a.n) (limb a.d) = c by rw [ordQ_small n2 d2.2 n1 d1.2, ← hc]; rfl)
  have hcb : -1 ≤ c ∧ c ≤ 1 := by rw [← hc]; unfold cmpJ; split; omega; split <;> omega
  unfold ordJ at hr
  rw [hc] at hr
  have HR := Lib.hid hr
  obtain ⟨a1, a2, a3, a4, a5, a6⟩ := a
  obtain ⟨b1, b2, b3, b4, b5, b6⟩ := b
  simp only at v1 f1 c1 r1 v2 f2 c2 r2 HR
  clear h1 h2 h3 h4 hM hB0 hc hr n1 d1 n2 d2
  by_cases e1 : a3 = b3
  · subst e1
    have q1 : (a3 != a3) = false := by simp
    by_cases e2 : c = 0
    · subst e2
      by_cases e3 : a4 = b4
      · subst e3
        have q3 : (a4 != a4) = false := by simp
        by_cases e4 : a1 = b1
        · subst e4
          have q4 : (a1 != a1) = false := by simp
          (
            go_enter Tryz.func28, Tryz.ntmps28
            go_wp2_with (first
              | (go_at_call 32; (with_reducible refine (fcmp_as HN2.out HD2.out HN1.out HD1.out HL3.out HL4.out HL1.out HL2.out HV2.out HV1.out HC.out).mono ?_); rintro e w1 ⟨rfl, hb⟩; have HM1 := Lib.hid (HM.out.call hb); have HB1 := Lib.hid (HB0.out.trans (hb.mono HB0.out.size)); obtain ⟨t0, t1, t2, t3, t4, t5, t6, -⟩ := HM1.out.lay7 0 rfl; obtain ⟨s0, s1, s2, s3, s4, s5, s6, -⟩ := HM1.out.lay7 1 rfl; clear hb))
            go_ret)
          exact ⟨by rw [← HR.out]; simp, HB1.out⟩
        · have q4 : (a1 != b1) = true := by simpa using e4
          (
            go_enter Tryz.func28, Tryz.ntmps28
            go_wp2_with (first
              | (go_at_call 32; (with_reducible refine (fcmp_as HN2.out HD2.out HN1.out HD1.out HL3.out HL4.out HL1.out HL2.out HV2.out HV1.out HC.out).mono ?_); rintro e w1 ⟨rfl, hb⟩; have HM1 := Lib.hid (HM.out.call hb); have HB1 := Lib.hid (HB0.out.trans (hb.mono HB0.out.size)); obtain ⟨t0, t1, t2, t3, t4, t5, t6, -⟩ := HM1.out.lay7 0 rfl; obtain ⟨s0, s1, s2, s3, s4, s5, s6, -⟩ := HM1.out.lay7 1 rfl; clear hb))
            go_ret)
          exact ⟨by rw [← HR.out]; simp [e4], HB1.out⟩
      · have q3 : (a4 != b4) = true := by simpa using e3
        (
          go_enter Tryz.func28, Tryz.ntmps28
          go_wp2_with (first
            | (go_at_call 32; (with_reducible refine (fcmp_as HN2.out HD2.out HN1.out HD1.out HL3.out HL4.out HL1.out HL2.out HV2.out HV1.out HC.out).mono ?_); rintro e w1 ⟨rfl, hb⟩; have HM1 := Lib.hid (HM.out.call hb); have HB1 := Lib.hid (HB0.out.trans (hb.mono HB0.out.size)); obtain ⟨t0, t1, t2, t3, t4, t5, t6, -⟩ := HM1.out.lay7 0 rfl; obtain ⟨s0, s1, s2, s3, s4, s5, s6, -⟩ := HM1.out.lay7 1 rfl; clear hb))
          go_ret)
        exact ⟨by rw [← HR.out]; simp [e3], HB1.out⟩
    · have q2 : (c != 0) = true := by simpa using e2
      (
        go_enter Tryz.func28, Tryz.ntmps28
        go_wp2_with (first
          | (go_at_call 32; (with_reducible refine (fcmp_as HN2.out HD2.out HN1.out HD1.out HL3.out HL4.out HL1.out HL2.out HV2.out HV1.out HC.out).mono ?_); rintro e w1 ⟨rfl, hb⟩; have HM1 := Lib.hid (HM.out.call hb); have HB1 := Lib.hid (HB0.out.trans (hb.mono HB0.out.size)); obtain ⟨t0, t1, t2, t3, t4, t5, t6, -⟩ := HM1.out.lay7 0 rfl; obtain ⟨s0, s1, s2, s3, s4, s5, s6, -⟩ := HM1.out.lay7 1 rfl; clear hb))
        go_ret)
      exact ⟨by rw [← HR.out]; simp [e2], HB1.out⟩
  · have q1 : (a3 != b3) = true := by simpa using e1
    (
      go_enter Tryz.func28, Tryz.ntmps28
      go_wp2_with (first
        | (go_at_call 32; (with_reducible refine (fcmp_as HN2.out HD2.out HN1.out HD1.out HL3.out HL4.out HL1.out HL2.out HV2.out HV1.out HC.out).mono ?_); rintro e w1 ⟨rfl, hb⟩; have HM1 := Lib.hid (HM.out.call hb); have HB1 := Lib.hid (HB0.out.trans (hb.mono HB0.out.size)); obtain ⟨t0, t1, t2, t3, t4, t5, t6, -⟩ := HM1.out.lay7 0 rfl; obtain ⟨s0, s1, s2, s3, s4, s5, s6, -⟩ := HM1.out.lay7 1 rfl; clear hb))
      go_ret)
    exact ⟨by rw [← HR.out]; simp [e1], HB0.out⟩
end Go.Proofs.YtgnmolleaengaaaGreat
