/- alike under Rel: the walk. -/
import Derived.Test.YtnhpjmjinchamaaLj
set_option linter.unusedVariables false
set_option linter.unusedSimpArgs false
set_option linter.unnecessarySimpa false
namespace Go.Proofs.Ytnhpjmjinchamaa
open Go Go.RowKit Go.MapKept

set_option maxRecDepth 20000 in
set_option maxHeartbeats 16000000 in
theorem alike_as {w : World} {B rb N : Nat} {i : Ids} {T : Tb} {R : Rf} (h : Both B i rb T R w) (hr : Rel N T R) (hN : N ≤ 900) (o : Opc) : Calls Try.prog 27 #[i.ptr, .pointer (some ⟨rb, 0, none⟩), ov o] w fun e w' => e = .returned (.bool true) ∧ Below w.heap.size w w' := by
  obtain ⟨k, v, f, d, x⟩ := o
  have hB0 := below_alloc w (.cells #[.int .i64 k, .int .i64 v, .int .i64 f, .int .i64 d, .int .i64 x] 42)
  have HR := Lib.hid (h.call hB0)
  have HB0 := Lib.hid hB0
  have HL := Lib.hid hr
  have HN := Lib.hid hN
  clear h hB0 hr hN
  obtain ⟨r, hr⟩ := free_ex T.u d x
  have HF := Lib.hid hr
  obtain ⟨jr, hj⟩ : ∃ r, judgeF T v f d x = r := ⟨_, rfl⟩
  have HJ := Lib.hid hj
  obtain ⟨t, ht⟩ : ∃ t, T.term = t := ⟨_, rfl⟩
  have HT := Lib.hid ht
  obtain ⟨l1, a1⟩ : ∃ l, (T.h (v, f)).getD noL = l := ⟨_, rfl⟩
  obtain ⟨l2, a2⟩ : ∃ l, (T.m (v, f)).getD noL = l := ⟨_, rfl⟩
  obtain ⟨l3, a3⟩ : ∃ l, (T.u (d, x)).getD noL = l := ⟨_, rfl⟩
  obtain ⟨c1, d1⟩ : ∃ c, (T.h (v, f)).isSome = c := ⟨_, rfl⟩
  obtain ⟨c2, d2⟩ : ∃ c, (T.m (v, f)).isSome = c := ⟨_, rfl⟩
  obtain ⟨c3, d3⟩ : ∃ c, (T.u (d, x)).isSome = c := ⟨_, rfl⟩
  have A1 := Lib.hid a1
  have A2 := Lib.hid a2
  have A3 := Lib.hid a3
  have D1 := Lib.hid d1
  have D2 := Lib.hid d2
  have D3 := Lib.hid d3
  clear hr hj ht a1 a2 a3 d1 d2 d3
  obtain ⟨vL, hv, hrow, -⟩ := HR.out.rf.row
  obtain ⟨ra, rc, rfl⟩ := rows_val hrow
  have HRD := Lib.hid (RdL.of_rows hrow)
  obtain ⟨n, hn⟩ : ∃ n, R.L.length = n := ⟨_, rfl⟩
  rw [hn] at hv HRD
  have HNN := Lib.hid hn
  have HW := Lib.hid (show (w.alloc (.cells #[.int .i64 k, .int .i64 v, .int .i64 f, .int .i64 d, .int .i64 x] 42)).cell? ⟨rb, 96, none⟩ = some (.slice ra n rc) from hv)
  have HNM := Lib.hid (show (w.alloc (.cells #[.int .i64 k, .int .i64 v, .int .i64 f, .int .i64 d, .int .i64 x] 42)).cell? ⟨rb, 97, none⟩ = some (.int .i64 t) by have := HR.out.rf.num; rw [← HL.out.term, HT.out] at this; exact this)
  have HRL := Lib.hid HR.out.rf.lt
  have e1 := eql_ls l1
  have e2 := eql_ls l2
  have e3 := eql_ls l3
  clear hv hrow hn
  go_enter Try.func27, Try.ntmps27
  go_wp2_with (first
    | (go_at_call 19; (with_reducible refine (home_as HR.out.tb _ _ A1.out D1.out).mono ?_); rintro e w1 ⟨rfl, hb⟩; have B1 := Lib.hid (hb); have P1 := Lib.hid (B1.out.alloc B1.out.size (.cells (lc l1) 46)); have q1 := box_at B1.out; have q1' := ref_at2 HRL.out HW.out HNM.out B1.out; obtain ⟨g1, g2, g3, g4, g5⟩ := q1; obtain ⟨g6, g7, g8⟩ := q1'; have M1 := Lib.hid ((Mm.start (S := []) w1 (by simp)).push w1.heap.size (lc l1) 46 rfl); clear hb)
    | (go_at_call 46; (with_reducible refine (of_as' (HR.out.call P1.out).rf HL.out _ _ A1.out D1.out).mono ?_); rintro e w2 ⟨rfl, hb⟩; have B2 := Lib.hid (P1.out.trans (hb.mono P1.out.size)); have P2 := Lib.hid (B2.out.alloc B2.out.size (.cells (lc l1) 46)); have q2 := box_at B2.out; have q2' := ref_at2 HRL.out HW.out HNM.out B2.out; obtain ⟨g1, g2, g3, g4, g5⟩ := q2; obtain ⟨g6, g7, g8⟩ := q2'; have M2 := Lib.hid ((M1.out.call hb).push w2.heap.size (lc l1) 46 rfl); clear hb)
    | (go_at_call 40; (with_reducible refine (target_as (HR.out.call P2.out).tb _ _ A2.out D2.out).mono ?_); rintro e w3 ⟨rfl, hb⟩; have B3 := Lib.hid (P2.out.trans (hb.mono P2.out.size)); have P3 := Lib.hid (B3.out.alloc B3.out.size (.cells (lc l2) 46)); have q3 := box_at B3.out; have q3' := ref_at2 HRL.out HW.out HNM.out B3.out; obtain ⟨g1, g2, g3, g4, g5⟩ := q3; obtain ⟨g6, g7, g8⟩ := q3'; have M3 := Lib.hid ((M2.out.call hb).push w3.heap.size (lc l2) 46 rfl); clear hb)
    | (go_at_call 46; (with_reducible refine (ofm_as (HR.out.call P3.out).rf HL.out _ _ A2.out D2.out).mono ?_); rintro e w4 ⟨rfl, hb⟩; have B4 := Lib.hid (P3.out.trans (hb.mono P3.out.size)); have P4 := Lib.hid (B4.out.alloc B4.out.size (.cells (lc l2) 46)); have q4 := box_at B4.out; have q4' := ref_at2 HRL.out HW.out HNM.out B4.out; obtain ⟨g1, g2, g3, g4, g5⟩ := q4; obtain ⟨g6, g7, g8⟩ := q4'; have M4 := Lib.hid ((M3.out.call hb).push w4.heap.size (lc l2) 46 rfl); clear hb)
    | (go_at_call 25; (with_reducible refine (at_as (HR.out.call P4.out).tb _ _ A3.out D3.out).mono ?_); rintro e w5 ⟨rfl, hb⟩; have B5 := Lib.hid (P4.out.trans (hb.mono P4.out.size)); have P5 := Lib.hid (B5.out.alloc B5.out.size (.cells (lc l3) 46)); have q5 := box_at B5.out; have q5' := ref_at2 HRL.out HW.out HNM.out B5.out; obtain ⟨g1, g2, g3, g4, g5⟩ := q5; obtain ⟨g6, g7, g8⟩ := q5'; have M5 := Lib.hid ((M4.out.call hb).push w5.heap.size (lc l3) 46 rfl); clear hb)
    | (go_at_call 47; (with_reducible refine (rat_as' (HR.out.call P5.out).rf HL.out _ _ A3.out D3.out).mono ?_); rintro e w6 ⟨rfl, hb⟩; have B6 := Lib.hid (P5.out.trans (hb.mono P5.out.size)); have P6 := Lib.hid (B6.out.alloc B6.out.size (.cells (lc l3) 46)); have q6 := box_at B6.out; have q6' := ref_at2 HRL.out HW.out HNM.out B6.out; obtain ⟨g1, g2, g3, g4, g5⟩ := q6; obtain ⟨g6, g7, g8⟩ := q6'; have M6 := Lib.hid (M5.out.call hb); obtain ⟨a00, a01, a02, a03, a04, a05, -, -, -, -, -, -, a0l⟩ := M6.out.lay6 4 rfl; obtain ⟨a10, a11, a12, a13, a14, a15, -, -, -, -, -, -, a1l⟩ := M6.out.lay6 3 rfl; obtain ⟨a20, a21, a22, a23, a24, a25, -, -, -, -, -, -, a2l⟩ := M6.out.lay6 2 rfl; obtain ⟨a30, a31, a32, a33, a34, a35, -, -, -, -, -, -, a3l⟩ := M6.out.lay6 1 rfl; obtain ⟨a40, a41, a42, a43, a44, a45, -, -, -, -, -, -, a4l⟩ := M6.out.lay6 0 rfl; clear hb))
  have M7 := Lib.hid (M6.out.push w6.heap.size (lc l3) 46 rfl)
  have P67 := Lib.hid P6.out
  clear M1 M2 M3 M4 M5 M6 P1 P2 P3 P4 P5 P6 B1 B2 B3 B4 B5 B6
  obtain ⟨S, hS⟩ : ∃ S, AlR (w.alloc (.cells #[.int .i64 k, .int .i64 v, .int .i64 f, .int .i64 d, .int .i64 x] 42)) w1 w6.heap.size w5.heap.size w4.heap.size w3.heap.size w2.heap.size w1.heap.size l1 l2 l3 = S := ⟨_, rfl⟩
  have HS := Lib.hid hS
  have hSt : Stable S := fun w w' hw hb => by rw [← HS.out] at *; exact hw.step hb
  have STB := Lib.hid hSt
  refine wp_region_pick S S ((List.range 77) ++ [78, 79, 80, 81]) 4 rfl (by kernel_rfl) (by kernel_rfl) (by kernel_rfl) hSt (fun _ h => h) (by rw [← HS.out]; exact ⟨M7.out, P67.out⟩) ?_
  clear hS hSt
  try simp only [List.append_eq, List.cons_append, List.nil_append]
  have er : (List.range 77) ++ [78, 79, 80, 81] = [0, 1, 2, 3, 4, 5, 6, 7, 8, 9, 10, 11, 12, 13, 14, 15, 16, 17, 18, 19, 20, 21, 22, 23, 24, 25, 26, 27, 28, 29, 30, 31, 32, 33, 34, 35, 36, 37, 38, 39, 40, 41, 42, 43, 44, 45, 46, 47, 48, 49, 50, 51, 52, 53, 54, 55, 56, 57, 58, 59, 60, 61, 62, 63, 64, 65, 66, 67, 68, 69, 70, 71, 72, 73, 74, 75, 76, 78, 79, 80, 81] := by decide
  rw [er]
  clear er
  repeat first
           | (apply pRow_plain
              · exact rfl
              · exact rfl
              · intro wg hg
                ((rw [← HS.out] at hg; have hgb := hg.2; obtain ⟨g1, g2, g3, g4, g5⟩ := box_at hg.2; obtain ⟨g6, g7, g8⟩ := ref_at2 HRL.out HW.out HNM.out hg.2; obtain ⟨x0, x1, x2, x3, x4, x5, -⟩ := hg.1.lay6 0 rfl; obtain ⟨y0, y1, y2, y3, y4, y5, -⟩ := hg.1.lay6 1 rfl; obtain ⟨z0, z1, z2, z3, z4, z5, -⟩ := hg.1.lay6 2 rfl; obtain ⟨t0, t1, t2, t3, t4, t5, -⟩ := hg.1.lay6 3 rfl; obtain ⟨u0, u1, u2, u3, u4, u5, -⟩ := hg.1.lay6 4 rfl; obtain ⟨v0, v1, v2, v3, v4, v5, -⟩ := hg.1.lay6 5 rfl))
                go_simp
                first
                  | exact rfl
                  | exact Below.refl _ _
                  | exact ⟨Below.refl _ _, rfl⟩
                  | ((first
| ((with_reducible refine (free_as (HR.out.call hgb).tb HF.out).mono ?_); rintro e w' ⟨rfl, hb⟩; exact ⟨rfl, hb⟩)
| ((with_reducible refine (rfree_as (HR.out.call hgb).rf HL.out HF.out).mono ?_); rintro e w' ⟨rfl, hb⟩; exact ⟨rfl, hb⟩)
| ((with_reducible refine (judge_as (HR.out.call hgb).tb HJ.out).mono ?_); rintro e w' ⟨rfl, hb⟩; exact ⟨rfl, hb⟩)
| ((with_reducible refine (rjudge_as (HR.out.call hgb).rf HL.out HJ.out).mono ?_); rintro e w' ⟨rfl, hb⟩; exact ⟨rfl, hb⟩)
| ((with_reducible refine (term_as (HR.out.call hgb).tb HT.out).mono ?_); rintro e w' ⟨rfl, rfl⟩; exact ⟨rfl, Below.refl _ _⟩)))
              intro K hK
              go_simp
              refine hK _ ?_
              clear hK K)
           | (apply pRow_step
              · exact rfl
              · go_simp; done
              · intro wg hg
                ((rw [← HS.out] at hg; have hgb := hg.2; obtain ⟨g1, g2, g3, g4, g5⟩ := box_at hg.2; obtain ⟨g6, g7, g8⟩ := ref_at2 HRL.out HW.out HNM.out hg.2; obtain ⟨x0, x1, x2, x3, x4, x5, -⟩ := hg.1.lay6 0 rfl; obtain ⟨y0, y1, y2, y3, y4, y5, -⟩ := hg.1.lay6 1 rfl; obtain ⟨z0, z1, z2, z3, z4, z5, -⟩ := hg.1.lay6 2 rfl; obtain ⟨t0, t1, t2, t3, t4, t5, -⟩ := hg.1.lay6 3 rfl; obtain ⟨u0, u1, u2, u3, u4, u5, -⟩ := hg.1.lay6 4 rfl; obtain ⟨v0, v1, v2, v3, v4, v5, -⟩ := hg.1.lay6 5 rfl))
                go_simp
                first
                  | exact rfl
                  | exact Below.refl _ _
                  | exact ⟨Below.refl _ _, rfl⟩
                  | ((first
| ((with_reducible refine (free_as (HR.out.call hgb).tb HF.out).mono ?_); rintro e w' ⟨rfl, hb⟩; exact ⟨rfl, hb⟩)
| ((with_reducible refine (rfree_as (HR.out.call hgb).rf HL.out HF.out).mono ?_); rintro e w' ⟨rfl, hb⟩; exact ⟨rfl, hb⟩)
| ((with_reducible refine (judge_as (HR.out.call hgb).tb HJ.out).mono ?_); rintro e w' ⟨rfl, hb⟩; exact ⟨rfl, hb⟩)
| ((with_reducible refine (rjudge_as (HR.out.call hgb).rf HL.out HJ.out).mono ?_); rintro e w' ⟨rfl, hb⟩; exact ⟨rfl, hb⟩)
| ((with_reducible refine (term_as (HR.out.call hgb).tb HT.out).mono ?_); rintro e w' ⟨rfl, rfl⟩; exact ⟨rfl, Below.refl _ _⟩)))
              intro K hK
              go_simp
              refine hK _ ?_
              clear hK K)
  apply pRow_nil
  refine lAny_step [77] (by kernel_rfl) (by simp) fun j hj => ?_
  obtain rfl : j = 77 := by simpa using hj
  refine lOp_guarded rfl (fun u w' => (∃ p c, u = .slice p n c ∧ RdL w' (.slice p n c) R.L) ∧ S w') (by go_simp; done) ?_ (fun u w' h => h.2) ?_ ?_
  · rintro u w1' w2' ⟨⟨p, c, rfl, h1⟩, h2⟩ hb
    exact ⟨⟨p, c, rfl, h1.keep hb⟩, STB.out _ _ h2 hb⟩
  · intro wg hg
    have hg2 := hg
    rw [← HS.out] at hg2
    go_simp
    refine (leases_as (HR.out.call hg2.2).tb HL.out HN.out).mono ?_
    rintro e w' ⟨hb, p, c, rfl, hrd⟩
    rw [HNN.out] at hrd ⊢
    exact ⟨_, rfl, ⟨p, c, rfl, hrd⟩, STB.out _ _ hg hb⟩
  rintro u ⟨wq, ⟨p, c, rfl, hq⟩, -⟩ K hK
  go_simp
  refine hK _ ?_
  clear hK K hq wq
  refine lAny_step [82] (by kernel_rfl) (by simp) fun j hj => ?_
  obtain rfl : j = 82 := by simpa using hj
  refine lOp_guarded rfl (fun u w' => u = .bool true ∧ S w') (by go_simp; done) ?_ (fun u w' h => h.2) ?_ ?_
  · rintro u w1' w2' ⟨rfl, h2⟩ hb
    exact ⟨rfl, STB.out _ _ h2 hb⟩
  · rintro wg ⟨⟨p', c', he, hrd⟩, hg⟩
    cases he
    have hg2 := hg
    rw [← HS.out] at hg2
    have hrd2 := HRD.out.keep hg2.2
    go_simp
    refine (same_as _ _ R.L _ hrd hrd2).mono ?_
    rintro e w' ⟨rfl, hb⟩
    exact ⟨_, rfl, rfl, STB.out _ _ hg hb⟩
  rintro u ⟨wq, rfl, -⟩ K hK
  go_simp
  refine hK _ ?_
  clear hK K wq
  refine lAny_rest [83, 84] (by kernel_rfl) (by kernel_rfl) (by kernel_rfl) ?_
  repeat first
           | (apply pRow_plain
              · exact rfl
              · exact rfl
              · intro wg hg
                ((skip))
                go_simp
                first
                  | exact rfl
                  | exact Below.refl _ _
                  | exact ⟨Below.refl _ _, rfl⟩
                  | ((skip))
              intro K hK
              go_simp
              refine hK _ ?_
              clear hK K)
           | (apply pRow_step
              · exact rfl
              · go_simp; done
              · intro wg hg
                ((skip))
                go_simp
                first
                  | exact rfl
                  | exact Below.refl _ _
                  | exact ⟨Below.refl _ _, rfl⟩
                  | ((skip))
              intro K hK
              go_simp
              refine hK _ ?_
              clear hK K)
  apply pRow_nil
  rintro w9 ⟨-, hq⟩
  rw [← HS.out] at hq
  have B13 := Lib.hid hq.2
  clear hq
  go_wp2_with fail
  go_ret
  exact ⟨rfl, HB0.out.trans (B13.out.mono HB0.out.size)⟩
end Go.Proofs.Ytnhpjmjinchamaa
