/- The walk of fraction.Cmp. -/
import Derived.Test.YtgnmolleaengaaaGreatNf
set_option linter.unusedVariables false
set_option linter.unusedSimpArgs false
set_option linter.unnecessarySimpa false
namespace Go.Proofs.YtgnmolleaengaaaGreat
open Go Go.RowKit

theorem valid_facts {N D : List Nat} (h : validQ N D = true) : 0 < clen D ∧ clen D ≤ 128 ∧ clen N ≤ 128 := by
  unfold validQ at h
  simp at h
  exact ⟨h.1.1, h.1.2, h.2⟩

set_option maxRecDepth 20000 in
set_option maxHeartbeats 4000000 in
theorem fcmp_as {w : World} {n1 n2 : Bool} {a1 b1 a2 b2 : Option Addr} {m1 c1 k1 d1 m2 c2 k2 d2 : Nat} {N1 D1 N2 D2 : List Nat}
    (h1 : Rd eU w (.slice a1 m1 c1) N1) (h2 : Rd eU w (.slice b1 k1 d1) D1) (h3 : Rd eU w (.slice a2 m2 c2) N2) (h4 : Rd eU w (.slice b2 k2 d2) D2)
    (l1 : Lims N1) (l2 : Lims D1) (l3 : Lims N2) (l4 : Lims D2) (v1 : validQ N1 D1 = true) (v2 : validQ N2 D2 = true) {r : Int} (hr : ordQ n1 n2 N1 D1 N2 D2 = r) :
    Calls Tryz.prog 32 #[fv n1 (.slice a1 m1 c1) (.slice b1 k1 d1), fv n2 (.slice a2 m2 c2) (.slice b2 k2 d2)] w fun e w' => e = .returned (.tuple #[.int .i64 r, .int .i64 0]) ∧ Below w.heap.size w w' := by
  obtain ⟨x1, x2, x3⟩ := valid_facts v1
  obtain ⟨y1, y2, y3⟩ := valid_facts v2
  have HL1 := Lib.hid l1
  have HL2 := Lib.hid l2
  have HL3 := Lib.hid l3
  have HL4 := Lib.hid l4
  have HK1 := Lib.hid (show clen N1 ≤ 5000 by omega)
  have HK2 := Lib.hid (show clen D1 ≤ 5000 by omega)
  have HK3 := Lib.hid (show clen N2 ≤ 5000 by omega)
  have HK4 := Lib.hid (show clen D2 ≤ 5000 by omega)
  have HS1 := Lib.hid (show clen N1 + clen D2 ≤ 512 by omega)
  have HS2 := Lib.hid (show clen N2 + clen D1 ≤ 512 by omega)
  have HV1 := Lib.hid v1
  have HV2 := Lib.hid v2
  have hM := ((Mm.start (S := []) w (by simp)).push w.heap.size #[.bool n1, .slice a1 m1 c1, .slice b1 k1 d1] 27 rfl).push (w.heap.size + 1) #[.bool n2, .slice a2 m2 c2, .slice b2 k2 d2] 27 (by simp)
  have HM := Lib.hid hM
  have hB0 : Below w.heap.size w ((w.alloc (.cells #[.bool n1, .slice a1 m1 c1, .slice b1 k1 d1] 27)).alloc (.cells #[.bool n2, .slice a2 m2 c2, .slice b2 k2 d2] 27)) := hM.only.below (by simp) (Nat.le_refl _)
  have HR1 := Lib.hid (h1.below hB0 (Nat.le_refl _))
  have HR2 := Lib.hid (h2.below hB0 (Nat.le_refl _))
  have HR3 := Lib.hid (h3.below hB0 (Nat.le_refl _))
  have HR4 := Lib.hid (h4.below hB0 (Nat.le_refl _))
  have HB0 := Lib.hid hB0
  obtain ⟨k, hk⟩ : ∃ k, cmpN (mulL N1 D2) (mulL N2 D1) = k := ⟨_, rfl⟩
  have HCK := Lib.hid hk
  have HP1 := Lib.hid (show clen (mulL N1 D2) ≤ 5000 by have := mulL_len l1 l4; have := clen_le (mulL N1 D2); omega)
  have HP2 := Lib.hid (show clen (mulL N2 D1) ≤ 5000 by have := mulL_len l3 l2; have := clen_le (mulL N2 D1); omega)
  obtain ⟨z1, hz1⟩ : ∃ z, decide (clen N1 = 0) = z := ⟨_, rfl⟩
  obtain ⟨z2, hz2⟩ : ∃ z, decide (clen N2 = 0) = z := ⟨_, rfl⟩
  have HZ1 := Lib.hid hz1
  have HZ2 := Lib.hid hz2
  have HRR := Lib.hid (show (if (n1 && !z1) && (n2 && !z2) then -k else if (n1 && !z1) then -1 else if (n2 && !z2) then 1 else k) = r by rw [← hr, ← hk, ← hz1, ← hz2]; rfl)
  have hkb : -1 ≤ k ∧ k ≤ 1 := by
    rw [← hk]
    have : ∀ (p q : List Nat) (i : Nat), -1 ≤ cmpAt p q i ∧ cmpAt p q i ≤ 1 := fun p q i => by
      induction i with
      | zero => simp [cmpAt]
      | succ i ih => simp only [cmpAt]; split; omega; split; omega; exact ih
    unfold cmpN
    split
    · omega
    split
    · omega
    · exact this _ _ _
  clear h1 h2 h3 h4 l1 l2 l3 l4 v1 v2 x1 x2 x3 y1 y2 y3 hr hk hz1 hz2 hM hB0
  go_enter Tryz.func32, Tryz.ntmps32
  go_wp2_with (first
    | (go_at_call 54; (with_reducible refine (fvalid_as HR1.out HR2.out HL1.out HL2.out HK1.out HK2.out HV1.out).mono ?_); rintro e w1 ⟨rfl, hb⟩; have HM1 := Lib.hid (HM.out.call hb); have HB1 := Lib.hid (HB0.out.trans (hb.mono HB0.out.size)); have HQ3 := Lib.hid (HR3.out.keep hb); have HQ4 := Lib.hid (HR4.out.keep hb); have HQ1 := Lib.hid (HR1.out.keep hb); have HQ2 := Lib.hid (HR2.out.keep hb); obtain ⟨t0, t1, t2, -⟩ := HM1.out.lay3 0 rfl; obtain ⟨s0, s1, s2, -⟩ := HM1.out.lay3 1 rfl; clear hb)
    | (go_at_call 54; (with_reducible refine (fvalid_as HQ3.out HQ4.out HL3.out HL4.out HK3.out HK4.out HV2.out).mono ?_); rintro e w2 ⟨rfl, hb⟩; have HM2 := Lib.hid (HM1.out.call hb); have HB2 := Lib.hid (HB1.out.trans (hb.mono HB1.out.size)); have HT3 := Lib.hid (HQ3.out.keep hb); have HT4 := Lib.hid (HQ4.out.keep hb); have HT1 := Lib.hid (HQ1.out.keep hb); have HT2 := Lib.hid (HQ2.out.keep hb); clear hb))
  clear t0 t1 t2 s0 s1 s2 HQ1 HQ2 HQ3 HQ4 HR1 HR2 HR3 HR4 HM HM1 HB0 HB1
  refine wp_region_pick (Below w2.heap.size w2) (Below w2.heap.size w2) [0, 1, 2, 3, 5, 6, 7, 8] 4 rfl (by kernel_rfl) (by kernel_rfl) (by kernel_rfl) (fun _ _ h hb => h.trans (hb.mono h.size)) (fun _ h => h) (Below.refl _ _) ?_
  repeat (apply pRow_plain
          · exact rfl
          · exact rfl
          · intro wg hg
            ((obtain ⟨t0, t1, t2, -⟩ := (HM2.out.call hg).lay3 0 rfl; obtain ⟨s0, s1, s2, -⟩ := (HM2.out.call hg).lay3 1 rfl))
            go_simp
            first
              | exact rfl
              | exact Below.refl _ _
              | exact ⟨Below.refl _ _, rfl⟩
              | ((fail))
          intro K hK
          go_simp
          refine hK _ ?_
          clear hK K)
  refine pRow_nil ?_
  refine lAny_step [4] (by kernel_rfl) (by simp) fun j hj => ?_
  obtain rfl : j = 4 := by simpa using hj
  refine lOp_special' rfl (fun u w' => (∃ a n c, u = .slice a n c ∧ Rd eU w' (.slice a n c) (mulL N1 D2)) ∧ Below w2.heap.size w2 w') rfl ?_ (fun u w' h => h.2) ?_ ?_
  · rintro u w1' w2' ⟨⟨a, n, c, rfl, h1⟩, h2⟩ hb
    exact ⟨⟨a, n, c, rfl, h1.keep hb⟩, h2.trans (hb.mono h2.size)⟩
  · intro wg hg
    go_simp
    refine (times_any (HT1.out.keep hg) (HT4.out.keep hg) HL1.out HL4.out HS1.out).mono ?_
    rintro e w' ⟨a, n, c, rfl, hr, hb⟩
    exact ⟨_, rfl, ⟨a, n, c, rfl, hr⟩, hg.trans (hb.mono hg.size)⟩
  rintro u ⟨wq, ⟨pa, pn, pc, rfl, hq⟩, -⟩
  clear hq wq
  go_simp
  refine lAny_step [9] (by kernel_rfl) (by simp) fun j hj => ?_
  obtain rfl : j = 9 := by simpa using hj
  refine lOp_special' rfl (fun u w' => (∃ a n c, u = .slice a n c ∧ Rd eU w' (.slice a n c) (mulL N2 D1)) ∧ Rd eU w' (.slice pa pn pc) (mulL N1 D2) ∧ Below w2.heap.size w2 w') rfl ?_ (fun u w' h => h.2.2) ?_ ?_
  · rintro u w1' w2' ⟨⟨a, n, c, rfl, h1⟩, h2, h3⟩ hb
    exact ⟨⟨a, n, c, rfl, h1.keep hb⟩, h2.keep hb, h3.trans (hb.mono h3.size)⟩
  · rintro wg ⟨⟨a, n, c, he, h1⟩, hg⟩
    cases he
    go_simp
    refine (times_any (HT3.out.keep hg) (HT2.out.keep hg) HL3.out HL2.out HS2.out).mono ?_
    rintro e w' ⟨a, n, c, rfl, hr, hb⟩
    exact ⟨_, rfl, ⟨a, n, c, rfl, hr⟩, h1.keep hb, hg.trans (hb.mono hg.size)⟩
  rintro u ⟨wq, ⟨qa, qn, qc, rfl, hq⟩, -⟩
  clear hq wq
  go_simp
  refine lAny_step [10] (by kernel_rfl) (by simp) fun j hj => ?_
  obtain rfl : j = 10 := by simpa using hj
  refine lOp_special' rfl (fun u w' => u = .int .i64 k ∧ Below w2.heap.size w2 w') rfl ?_ (fun u w' h => h.2) ?_ ?_
  · rintro u w1' w2' ⟨rfl, h3⟩ hb
    exact ⟨rfl, h3.trans (hb.mono h3.size)⟩
  · rintro wg ⟨⟨a, n, c, he, h1⟩, h2, hg⟩
    cases he
    go_simp
    refine (cmp_as h2 h1 HP1.out HP2.out HCK.out).mono ?_
    rintro e w' ⟨rfl, hb⟩
    exact ⟨_, rfl, rfl, hg.trans (hb.mono hg.size)⟩
  rintro u ⟨wq, rfl, -⟩
  clear wq
  go_simp
  refine lAny_rest [11] (by kernel_rfl) (by kernel_rfl) (by kernel_rfl) ?_
  repeat (apply pRow_plain
          · exact rfl
          · exact rfl
          · intro wg hg
            ((skip))
            go_simp
            first
              | exact rfl
              | exact Below.refl _ _
              | exact ⟨Below.refl _ _, rfl⟩
              | ((skip))
          intro K hK
          go_simp
          refine hK _ ?_
          clear hK K)
  refine pRow_nil ?_
  intro w5 hq0
  have hq : Below w2.heap.size w2 w5 := by
    first
      | exact hq0
      | exact hq0.2
  clear hq0
  have HM5 := Lib.hid (HM2.out.call hq)
  have HB5 := Lib.hid (HB2.out.trans (hq.mono HB2.out.size))
  have HU1 := Lib.hid (HT1.out.keep hq)
  have HU3 := Lib.hid (HT3.out.keep hq)
  clear hq HT1 HT2 HT3 HT4 HM2 HB2
  have hneg : IntKind.i64.wrap (-k) = -k := IntWalk.i64_in _ (by omega)
  cases n1 <;> cases n2
  all_goals
    go_wp2_with fail
    refine wp_region_grow (Below w5.heap.size w5) (by kernel_rfl) (by kernel_rfl) (Below.refl _ _).drew ?_
    repeat first
             | (apply gRow_plain
                · exact rfl
                · intro wg hg
                  ((obtain ⟨t0, t1, t2, -⟩ := (HM5.out.call hg).lay3 0 rfl; obtain ⟨s0, s1, s2, -⟩ := (HM5.out.call hg).lay3 1 rfl))
                  go_simp
                  first
                    | exact rfl
                    | exact hg
                    | exact ⟨hg, rfl⟩
                    | ((first
| ((with_reducible refine (fzero_as (HU1.out.keep hg) rfl HL1.out HK1.out HZ1.out).mono ?_); rintro e w1 ⟨rfl, hb⟩; exact ⟨rfl, hg.trans (hb.mono hg.size)⟩)
| ((with_reducible refine (fzero_as (HU3.out.keep hg) rfl HL3.out HK3.out HZ2.out).mono ?_); rintro e w1 ⟨rfl, hb⟩; exact ⟨rfl, hg.trans (hb.mono hg.size)⟩)))
                intro K hK
                go_simp
                refine hK _ ?_
                clear hK K)
             | (apply gRow_step
                · go_simp; done
                · intro wg hg
                  ((obtain ⟨t0, t1, t2, -⟩ := (HM5.out.call hg).lay3 0 rfl; obtain ⟨s0, s1, s2, -⟩ := (HM5.out.call hg).lay3 1 rfl))
                  go_simp
                  first
                    | exact rfl
                    | exact hg
                    | exact ⟨hg, rfl⟩
                    | ((first
| ((with_reducible refine (fzero_as (HU1.out.keep hg) rfl HL1.out HK1.out HZ1.out).mono ?_); rintro e w1 ⟨rfl, hb⟩; exact ⟨rfl, hg.trans (hb.mono hg.size)⟩)
| ((with_reducible refine (fzero_as (HU3.out.keep hg) rfl HL3.out HK3.out HZ2.out).mono ?_); rintro e w1 ⟨rfl, hb⟩; exact ⟨rfl, hg.trans (hb.mono hg.size)⟩)))
                intro K hK
                go_simp
                refine hK _ ?_
                clear hK K)
             | (apply gRow_not
                · go_simp; done
                intro K hK
                go_simp
                refine hK _ ?_
                clear hK K)
    refine gRow_nil ?_
    intro w6 hb6
    have HB6 := Lib.hid (HB5.out.trans (hb6.mono HB5.out.size))
    clear hb6
    cases z1 <;> cases z2
    all_goals
      go_wp2_with fail
      go_ret2
      exact ⟨by have := HRR.out; simp at this; simp [this], HB6.out⟩
end Go.Proofs.YtgnmolleaengaaaGreat
