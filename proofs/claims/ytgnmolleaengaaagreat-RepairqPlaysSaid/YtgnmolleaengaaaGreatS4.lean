/- The walks of the reference's fractions: Order, Cmp. -/
import Derived.Test.YtgnmolleaengaaaGreatS3
set_option linter.unusedVariables false
set_option linter.unusedSimpArgs false
set_option linter.unnecessarySimpa false
namespace Go.Proofs.YtgnmolleaengaaaGreat
open Go Go.RowKit

def rordQ (n1 n2 : Bool) (A B : List Nat) : Int :=
  if (n1 && decide (0 < A.length)) && !(n2 && decide (0 < B.length)) then -1 else if (n2 && decide (0 < B.length)) && !(n1 && decide (0 < A.length)) then 1 else if n1 && decide (0 < A.length) then cmpN B A else cmpN A B

/-- the two products -/
structure Tw (W : World) (A B : List Nat) (p q : Option Addr) (pc qc : Nat) (w' : World) : Prop where
  ra : Rd eU w' (.slice p A.length pc) A
  rb : Rd eU w' (.slice q B.length qc) B
  below : Below W.heap.size W w'

set_option maxRecDepth 20000 in
set_option maxHeartbeats 8000000 in
theorem rorder_any {w : World} {n1 n2 : Bool} {a1 b1 a2 b2 : Option Addr} {m1 c1 k1 d1 m2 c2 k2 d2 : Nat} {N1 D1 N2 D2 : List Nat}
    (h1 : Rd eU w (.slice a1 m1 c1) N1) (h2 : Rd eU w (.slice b1 k1 d1) D1) (h3 : Rd eU w (.slice a2 m2 c2) N2) (h4 : Rd eU w (.slice b2 k2 d2) D2)
    (l1 : Lims N1) (l2 : Lims D1) (l3 : Lims N2) (l4 : Lims D2) (s1 : clen N1 + clen D2 ≤ 512) (s2 : clen N2 + clen D1 ≤ 512) {r : Int} (hr : rordQ n1 n2 (mulL N1 D2) (mulL N2 D1) = r) :
    Calls Tryz.prog 50 #[fv n1 (.slice a1 m1 c1) (.slice b1 k1 d1), fv n2 (.slice a2 m2 c2) (.slice b2 k2 d2)] w fun e w' => e = .returned (.int .i64 r) ∧ Below w.heap.size w w' := by
  have hM := ((Mm.start (S := []) w (by simp)).push w.heap.size #[.bool n1, .slice a1 m1 c1, .slice b1 k1 d1] 27 rfl).push (w.heap.size + 1) #[.bool n2, .slice a2 m2 c2, .slice b2 k2 d2] 27 (by simp)
  have HM := Lib.hid hM
  have hB0 : Below w.heap.size w ((w.alloc (.cells #[.bool n1, .slice a1 m1 c1, .slice b1 k1 d1] 27)).alloc (.cells #[.bool n2, .slice a2 m2 c2, .slice b2 k2 d2] 27)) := hM.only.below (by simp) (Nat.le_refl _)
  have HB0 := Lib.hid hB0
  have HR1 := Lib.hid (h1.below hB0 (Nat.le_refl _))
  have HR2 := Lib.hid (h2.below hB0 (Nat.le_refl _))
  have HR3 := Lib.hid (h3.below hB0 (Nat.le_refl _))
  have HR4 := Lib.hid (h4.below hB0 (Nat.le_refl _))
  have HL1 := Lib.hid l1
  have HL2 := Lib.hid l2
  have HL3 := Lib.hid l3
  have HL4 := Lib.hid l4
  have HS1 := Lib.hid s1
  have HS2 := Lib.hid s2
  obtain ⟨A, hA⟩ : ∃ A, mulL N1 D2 = A := ⟨_, rfl⟩
  obtain ⟨B, hBB⟩ : ∃ A, mulL N2 D1 = A := ⟨_, rfl⟩
  have HCA := Lib.hid (show clen A ≤ 5000 by rw [← hA]; have := mulL_clen l1 l4; omega)
  have HCB := Lib.hid (show clen B ≤ 5000 by rw [← hBB]; have := mulL_clen l3 l2; omega)
  rw [hA, hBB] at hr
  have HA := Lib.hid hA
  have HBB := Lib.hid hBB
  have HRR := Lib.hid hr
  clear h1 h2 h3 h4 l1 l2 l3 l4 s1 s2 hM hB0 hA hBB hr
  go_enter Tryz.func50, Tryz.ntmps50
  go_wp2_with fail
  obtain ⟨W, hW⟩ : ∃ W, (w.alloc (.cells #[.bool n1, .slice a1 m1 c1, .slice b1 k1 d1] 27)).alloc (.cells #[.bool n2, .slice a2 m2 c2, .slice b2 k2 d2] 27) = W := ⟨_, rfl⟩
  rw [hW] at HM HB0 HR1 HR2 HR3 HR4 ⊢
  clear hW
  refine wp_region_pick (Below W.heap.size W) (Below W.heap.size W) [0, 1, 2, 3, 5, 6, 7, 8] 4 rfl (by kernel_rfl) (by kernel_rfl) (by kernel_rfl) (fun _ _ h hb => h.trans (hb.mono h.size)) (fun _ h => h) (Below.refl _ _) ?_
  repeat (apply pRow_plain
          · exact rfl
          · exact rfl
          · intro wg hg
            ((obtain ⟨t0, t1, t2, -⟩ := (HM.out.call hg).lay3 0 rfl; obtain ⟨s0, s1, s2, -⟩ := (HM.out.call hg).lay3 1 rfl))
            go_simp
            first
              | exact rfl
              | exact Below.refl _ _
              | exact ⟨Below.refl _ _, rfl⟩
              | ((fail))
          intro K hK
          go_simp
          refine hK _ ?_
          clear hK K)
  refine pRow_nil ?_
  refine lAny_step [4] (by kernel_rfl) (by simp) fun j hj => ?_
  obtain rfl : j = 4 := by simpa using hj
  refine lOp_special' rfl (fun u w' => (∃ p c, u = .slice p A.length c ∧ Rd eU w' (.slice p A.length c) A) ∧ Below W.heap.size W w') rfl ?_ (fun u w' h => h.2) ?_ ?_
  · rintro u w1' w2' ⟨⟨a, c, rfl, h1⟩, h2⟩ hb
    exact ⟨⟨a, c, rfl, h1.keep hb⟩, h2.trans (hb.mono h2.size)⟩
  · intro wg hg
    go_simp
    refine (rft_any (HR1.out.keep hg) (HR4.out.keep hg) HS1.out HL1.out HL4.out).mono ?_
    rw [HA.out]
    rintro e w' ⟨a, c, rfl, hr, hb⟩
    exact ⟨_, rfl, ⟨a, c, rfl, hr.rd⟩, hg.trans (hb.mono hg.size)⟩
  rintro u ⟨wq, ⟨pa, pc, rfl, hq⟩, -⟩
  clear hq wq
  go_simp
  refine lAny_step [9] (by kernel_rfl) (by simp) fun j hj => ?_
  obtain rfl : j = 9 := by simpa using hj
  refine lOp_special' rfl (fun u w' => ∃ q c, u = .slice q B.length c ∧ Tw W A B pa q pc c w') rfl ?_ (fun u w' h => by obtain ⟨_, _, _, h⟩ := h; exact h.below) ?_ ?_
  · rintro u w1' w2' ⟨q, c, rfl, h⟩ hb
    exact ⟨q, c, rfl, h.ra.keep hb, h.rb.keep hb, h.below.trans (hb.mono h.below.size)⟩
  · rintro wg ⟨⟨a, c, he, h1⟩, hg⟩
    cases he
    go_simp
    refine (rft_any (HR3.out.keep hg) (HR2.out.keep hg) HS2.out HL3.out HL2.out).mono ?_
    rw [HBB.out]
    rintro e w' ⟨a, c, rfl, hr, hb⟩
    exact ⟨_, rfl, a, c, rfl, h1.keep hb, hr.rd, hg.trans (hb.mono hg.size)⟩
  rintro u ⟨wq, qa, qc, rfl, hq⟩
  clear hq wq
  go_simp
  refine lAny_rest [10, 11] (by kernel_rfl) (by kernel_rfl) (by kernel_rfl) ?_
  repeat (apply pRow_plain
          · exact rfl
          · exact rfl
          · intro wg hg
            ((skip))
            go_simp
            first
              | exact rfl
              | exact Below.refl _ _
              | exact ⟨Below.refl _ _, rfl⟩
              | ((skip))
          intro K hK
          go_simp
          refine hK _ ?_
          clear hK K)
  refine pRow_nil ?_
  intro w5 hq0
  have hq : Tw W A B pa qa pc qc w5 := by
    first
      | exact hq0
      | (obtain ⟨q, c, he, h⟩ := hq0; obtain ⟨rfl, rfl⟩ := he; exact h)
      | (obtain ⟨q, c, he, h⟩ := hq0; cases he; exact h)
  clear hq0
  have HQ := Lib.hid hq
  have HM5 := Lib.hid (HM.out.call hq.below)
  have HB5 := Lib.hid (HB0.out.trans (hq.below.mono HB0.out.size))
  obtain ⟨t0, t1, t2, -⟩ := HM5.out.lay3 0 rfl
  obtain ⟨s0, s1, s2, -⟩ := HM5.out.lay3 1 rfl
  obtain ⟨la, hla⟩ : ∃ n, A.length = n := ⟨_, rfl⟩
  obtain ⟨lb, hlb⟩ : ∃ n, B.length = n := ⟨_, rfl⟩
  have HLA := Lib.hid hla
  have HLB := Lib.hid hlb
  have HRA := Lib.hid hq.ra
  have HRB := Lib.hid hq.rb
  rw [hla] at HRA ⊢
  rw [hlb] at HRB ⊢
  have KAB := Lib.hid (rcmp_any HRA.out HRB.out HCA.out HCB.out rfl)
  have KBA := Lib.hid (rcmp_any HRB.out HRA.out HCB.out HCA.out rfl)
  clear hq hla hlb HM HM5 HR1 HR2 HR3 HR4 HB0
  by_cases ha : 0 < la <;> by_cases hb : 0 < lb
  all_goals
    have hda : decide ((0 : Int) < (la : Int)) = decide (0 < la) := by rw [decide_eq_decide]; omega
    have hdb : decide ((0 : Int) < (lb : Int)) = decide (0 < lb) := by rw [decide_eq_decide]; omega
    simp only [ha, hb, decide_true, decide_false] at hda hdb
    have HRF := Lib.hid HRR.out
    unfold rordQ at HRF
    rw [HLA.out, HLB.out] at HRF
    simp only [ha, hb, decide_true, decide_false, Bool.and_true, Bool.and_false, Bool.not_false, Bool.false_and, Bool.false_eq_true, if_false] at HRF
    cases n1 <;> cases n2
    all_goals
      try simp only [Bool.not_true, Bool.not_false, Bool.and_true, Bool.and_false, Bool.true_and, Bool.false_and, Bool.false_eq_true, if_true, if_false] at HRF
      go_wp2_with (first
        | (go_at_call 73; (with_reducible refine KAB.out.mono ?_); rintro e w6 ⟨rfl, hb⟩; have HB6 := Lib.hid (HB5.out.trans (hb.mono HB5.out.size)); clear hb)
        | (go_at_call 73; (with_reducible refine KBA.out.mono ?_); rintro e w6 ⟨rfl, hb⟩; have HB6 := Lib.hid (HB5.out.trans (hb.mono HB5.out.size)); clear hb))
      go_ret
      first
        | exact ⟨congrArg (fun z => Ending.returned (.int .i64 z)) HRF.out, HB6.out⟩
        | exact ⟨congrArg (fun z => Ending.returned (.int .i64 z)) HRF.out, HB5.out⟩
end Go.Proofs.YtgnmolleaengaaaGreat
