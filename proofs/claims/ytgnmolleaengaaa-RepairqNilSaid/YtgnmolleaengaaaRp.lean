/- The walk of awake. -/
import Derived.Test.YtgnmolleaengaaaRo
set_option linter.unusedVariables false
set_option linter.unusedSimpArgs false
set_option linter.unnecessarySimpa false
namespace Go.Proofs.Ytgnmolleaengaaa
open Go Go.RowKit

theorem setRun_j {y : En} {j : Jb} {r : Bool} (h : y.j = j) : (setRun r y).j = j := h
theorem rd_one (w : World) (k : Ky) : Rd eK (w.alloc (.cells #[.int .i64 k.1, .int .i64 k.2] 39)) (.slice (some ⟨w.heap.size, 0, none⟩) 1 1) [k] := by
  have := Rd.new (E := eK) w [k] (by simp) 39
  exact this

set_option maxRecDepth 20000 in
set_option maxHeartbeats 4000000 in
theorem awake_any (w : World) : Calls Try.prog 5 #[] w fun e w' => e = .returned (.bool true) ∧ Below w.heap.size w w' := by
  go_enter Try.func5, Try.ntmps5
  go_wp2_with (first
    | (go_at_call 6; (with_reducible refine (new_one _).mono ?_); rintro e w1 ⟨qb, rfl, hq, hb⟩; have HQ1 := Lib.hid hq; have HB1 := Lib.hid hb; clear hq hb)
    | (go_at_call 15; (with_reducible refine (make12 _).mono ?_); rintro e w2 ⟨pa, pc, qa, qc, rfl, k1, k2, hb⟩; have hx := below_alloc w2 (.cells #[.bool false, .slice pa (limb 1).length pc, .slice qa (limb 2).length qc] 31); have HB2 := Lib.hid ((HB1.out.trans (hb.mono HB1.out.size)).alloc (HB1.out.trans (hb.mono HB1.out.size)).size (.cells #[.bool false, .slice pa (limb 1).length pc, .slice qa (limb 2).length qc] 31)); have HQ2 := Lib.hid ((HQ1.out.keep hb).keep hx); have K1 := Lib.hid (k1.keep hx); have K2 := Lib.hid (k2.keep hx); have HBX := Lib.hid (Holds.new w2 #[.bool false, .slice pa (limb 1).length pc, .slice qa (limb 2).length qc] 31); have HTY := Lib.hid (TyB.new w2 #[.bool false, .slice pa (limb 1).length pc, .slice qa (limb 2).length qc] 31); have HT2 := Lib.hid (Qt.of_below HB2.out w.heap.size); clear k1 k2 hb hx; obtain ⟨s0, s1, s2, -⟩ := HBX.out.lay3)
    | (go_at_call 10; (with_reducible refine (put_first HQ2.out HB2.out.size K1.out K2.out).mono ?_); rintro e w3 ⟨y, y1, y2, y3, rfl, hq, ht⟩; have HQ3 := Lib.hid hq; have HT3 := Lib.hid ht; have Y1 := Lib.hid y1; have Y2 := Lib.hid y2; have Y3 := Lib.hid y3; clear hq ht y1 y2 y3)
    | (go_at_call 12; (with_reducible refine (sched_first Y1.out Y2.out Y3.out HQ3.out (Nat.le_trans HB2.out.size HT3.out.size)).mono ?_); rintro e w4 ⟨a1, c1, a2, c2, rfl, r1, r2, hq, ht⟩; have HQ4 := Lib.hid hq; have HT4 := Lib.hid ((HT2.out.trans HT3.out).trans ht); have RA := Lib.hid r1; have K3 := Lib.hid ((K1.out.qt HT3.out).qt ht); have K4 := Lib.hid ((K2.out.qt HT3.out).qt ht); have HBX4 := Lib.hid (HBX.out.same (Nat.le_trans HT3.out.size ht.size) ((ht.block _ (HT3.out.ty _ 31 (by decide) HTY.out).lt (.inr ⟨fun q => absurd (q.uniq (HT3.out.ty _ 31 (by decide) HTY.out)) (by decide), fun q => absurd (q.uniq (HT3.out.ty _ 31 (by decide) HTY.out)) (by decide)⟩)).trans (HT3.out.block _ HTY.out.lt (.inr ⟨fun q => absurd (q.uniq HTY.out) (by decide), fun q => absurd (q.uniq HTY.out) (by decide)⟩)))); obtain ⟨u0, u1, u2, -⟩ := HBX4.out.lay3; clear hq ht r1 r2 s0 s1 s2 K1 K2)
    | (go_at_call 10; (with_reducible refine (put_second (setRun_j Y1.out) HQ4.out HT4.out.size K3.out K4.out).mono ?_); rintro e w5 ⟨z, z1, z2, z3, rfl, hq, ht⟩; have HQ5 := Lib.hid hq; have HT5 := Lib.hid (HT4.out.trans ht); have RA5 := Lib.hid (RA.out.qt ht (by decide) (by decide)); have Z1 := Lib.hid z1; have Z2 := Lib.hid z2; have Z3 := Lib.hid z3; clear hq ht z1 z2 z3)
    | (go_at_call 12; (with_reducible refine (sched_second Y1.out Y3.out Z1.out Z2.out Z3.out HQ5.out HT5.out.size).mono ?_); rintro e w6 ⟨a3, c3, a4, c4, rfl, r1, r2, hq, ht⟩; have HT6 := Lib.hid (HT5.out.trans ht); have RA6 := Lib.hid (RA5.out.qt ht (by decide) (by decide)); have RB6 := Lib.hid r1; have RC6 := Lib.hid r2; have KE := Lib.hid (samekeys_as _ _ [(0, 0)] _ (RA6.out.keep (below_alloc w6 (.cells #[.int .i64 0, .int .i64 0] 39))).rd (rd_one w6 (0, 0))); clear hq ht r1 r2)
    | (go_at_call 16; (with_reducible refine KE.out.mono ?_); rintro e w7 ⟨rfl, hb⟩; have hb2 := (below_alloc w6 (.cells #[.int .i64 0, .int .i64 0] 39)).trans (hb.mono (below_alloc w6 (.cells #[.int .i64 0, .int .i64 0] 39)).size); have HT7 := Lib.hid (HT6.out.keep hb2); have RB7 := Lib.hid (RB6.out.keep hb2); have RC7 := Lib.hid (RC6.out.keep hb2); have KF := Lib.hid (samekeys_as _ _ [(1, 0)] _ (RB7.out.keep (below_alloc w7 (.cells #[.int .i64 1, .int .i64 0] 39))).rd (rd_one w7 (1, 0))); clear hb hb2)
    | (go_at_call 16; (with_reducible refine KF.out.mono ?_); rintro e w8 ⟨rfl, hb⟩; have hb2 := (below_alloc w7 (.cells #[.int .i64 1, .int .i64 0] 39)).trans (hb.mono (below_alloc w7 (.cells #[.int .i64 1, .int .i64 0] 39)).size); have HT8 := Lib.hid (HT7.out.keep hb2); have RC8 := Lib.hid (RC7.out.keep hb2); have KG := Lib.hid (samekeys_as _ _ [(0, 0)] _ (RC8.out.keep (below_alloc w8 (.cells #[.int .i64 0, .int .i64 0] 39))).rd (rd_one w8 (0, 0))); clear hb hb2)
    | (go_at_call 16; (with_reducible refine KG.out.mono ?_); rintro e w9 ⟨rfl, hb⟩; have hb2 := (below_alloc w8 (.cells #[.int .i64 0, .int .i64 0] 39)).trans (hb.mono (below_alloc w8 (.cells #[.int .i64 0, .int .i64 0] 39)).size); have HT9 := Lib.hid (HT8.out.keep hb2); clear hb hb2))
  go_ret
  exact ⟨rfl, HT9.out.below (Nat.le_refl _)⟩
end Go.Proofs.Ytgnmolleaengaaa
