/- alike at the nil table and the empty reference. -/
import Derived.Test.YtnhpjmjinchamaaNf
set_option linter.unusedVariables false
set_option linter.unusedSimpArgs false
set_option linter.unnecessarySimpa false
namespace Go.Proofs.Ytnhpjmjinchamaa
open Go Go.RowKit Go.MapKept Go.ChangeMaps

theorem noR_L : noR.L = [] := rfl
theorem box_at {w w' : World} {k v f d x : Int} (hb : Below (w.alloc (.cells #[.int .i64 k, .int .i64 v, .int .i64 f, .int .i64 d, .int .i64 x] 42)).heap.size (w.alloc (.cells #[.int .i64 k, .int .i64 v, .int .i64 f, .int .i64 d, .int .i64 x] 42)) w') :
    w'.cell? ⟨w.heap.size, 1, none⟩ = some (.int .i64 v) ∧ w'.cell? ⟨w.heap.size, 2, none⟩ = some (.int .i64 f) ∧ w'.cell? ⟨w.heap.size, 3, none⟩ = some (.int .i64 d) ∧ w'.cell? ⟨w.heap.size, 4, none⟩ = some (.int .i64 x) ∧ w.heap.size < w'.heap.size := by
  have hl : w.heap.size < (w.alloc (.cells #[.int .i64 k, .int .i64 v, .int .i64 f, .int .i64 d, .int .i64 x] 42)).heap.size := by simp
  have q := fun i => hb.cell (p := ⟨w.heap.size, i, none⟩) hl
  exact ⟨(q 1).trans (by simp), (q 2).trans (by simp), (q 3).trans (by simp), (q 4).trans (by simp), Nat.lt_of_lt_of_le hl hb.size⟩
theorem ref_at {W w' : World} {rb : Nat} {a : Option Addr} {c : Nat} (hl : rb < W.heap.size) (hw : W.cell? ⟨rb, 96, none⟩ = some (.slice a 0 c)) (hn : W.cell? ⟨rb, 97, none⟩ = some (.int .i64 0)) (hb : Below W.heap.size W w') :
    w'.cell? ⟨rb, 96, none⟩ = some (.slice a 0 c) ∧ w'.cell? ⟨rb, 97, none⟩ = some (.int .i64 0) ∧ rb < w'.heap.size :=
  ⟨(hb.cell (p := ⟨rb, 96, none⟩) hl).trans hw, (hb.cell (p := ⟨rb, 97, none⟩) hl).trans hn, Nat.lt_of_lt_of_le hl hb.size⟩

def AlS (W0 w1 : World) (b6 b5 b4 b3 b2 b1 : Nat) (w' : World) : Prop := Mm [] w1 w' [(b6, lc noL), (b5, lc noL), (b4, lc noL), (b3, lc noL), (b2, lc noL), (b1, lc noL)] ∧ Below W0.heap.size W0 w'
theorem AlS.step {W0 w1 w w' : World} {b6 b5 b4 b3 b2 b1 : Nat} (h : AlS W0 w1 b6 b5 b4 b3 b2 b1 w) (hb : Below w.heap.size w w') : AlS W0 w1 b6 b5 b4 b3 b2 b1 w' := ⟨h.1.call hb, h.2.trans (hb.mono h.2.size)⟩
theorem AlS.below {W0 w1 w : World} {b6 b5 b4 b3 b2 b1 : Nat} (h : AlS W0 w1 b6 b5 b4 b3 b2 b1 w) : Below W0.heap.size W0 w := h.2
set_option maxRecDepth 20000 in
set_option maxHeartbeats 8000000 in
theorem alike_no {w : World} {B rb : Nat} (h : RfAt w B rb noR) (o : Opc) : Calls Try.prog 27 #[nilT, .pointer (some ⟨rb, 0, none⟩), ov o] w fun e w' => e = .returned (.bool true) ∧ Below w.heap.size w w' := by
  obtain ⟨k, v, f, d, x⟩ := o
  have HR := Lib.hid (h.below (below_alloc w (.cells #[.int .i64 k, .int .i64 v, .int .i64 f, .int .i64 d, .int .i64 x] 42)))
  have HB0 := Lib.hid (below_alloc w (.cells #[.int .i64 k, .int .i64 v, .int .i64 f, .int .i64 d, .int .i64 x] 42))
  clear h
  obtain ⟨r, hr⟩ : ∃ r, frN d x = r := ⟨_, rfl⟩
  have HF := Lib.hid hr
  clear hr
  obtain ⟨vL, hv, hrow, -⟩ := HR.out.row
  obtain ⟨ra, rc, rfl⟩ := rows_val hrow
  have HW := Lib.hid (show (w.alloc (.cells #[.int .i64 k, .int .i64 v, .int .i64 f, .int .i64 d, .int .i64 x] 42)).cell? ⟨rb, 96, none⟩ = some (.slice ra 0 rc) from hv)
  have HNM := Lib.hid (show (w.alloc (.cells #[.int .i64 k, .int .i64 v, .int .i64 f, .int .i64 d, .int .i64 x] 42)).cell? ⟨rb, 97, none⟩ = some (.int .i64 0) from HR.out.num)
  have HRL := Lib.hid HR.out.lt
  have e1 := fun w => eql_ls noL w
  clear hv hrow
  go_enter Try.func27, Try.ntmps27
  go_wp2_with (first
    | (go_at_call 19; (with_reducible refine (home_nil _ _ _).mono ?_); rintro e w1 ⟨rfl, hb⟩; have B1 := Lib.hid (hb); have P1 := Lib.hid (B1.out.alloc B1.out.size (.cells (lc noL) 46)); have q1 := box_at B1.out; have q1' := ref_at HRL.out HW.out HNM.out B1.out; obtain ⟨g1, g2, g3, g4, g5⟩ := q1; obtain ⟨g6, g7, g8⟩ := q1'; have M1 := Lib.hid ((Mm.start (S := []) w1 (by simp)).push w1.heap.size (lc noL) 46 rfl); clear hb)
    | (go_at_call 46; (with_reducible refine (of_no (HR.out.below P1.out) noR_L _ _ _).mono ?_); rintro e w2 ⟨rfl, hb⟩; have B2 := Lib.hid (P1.out.trans (hb.mono P1.out.size)); have P2 := Lib.hid (B2.out.alloc B2.out.size (.cells (lc noL) 46)); have q2 := box_at B2.out; have q2' := ref_at HRL.out HW.out HNM.out B2.out; obtain ⟨g1, g2, g3, g4, g5⟩ := q2; obtain ⟨g6, g7, g8⟩ := q2'; have M2 := Lib.hid ((M1.out.call hb).push w2.heap.size (lc noL) 46 rfl); clear hb)
    | (go_at_call 40; (with_reducible refine (target_nil _ _ _).mono ?_); rintro e w3 ⟨rfl, hb⟩; have B3 := Lib.hid (P2.out.trans (hb.mono P2.out.size)); have P3 := Lib.hid (B3.out.alloc B3.out.size (.cells (lc noL) 46)); have q3 := box_at B3.out; have q3' := ref_at HRL.out HW.out HNM.out B3.out; obtain ⟨g1, g2, g3, g4, g5⟩ := q3; obtain ⟨g6, g7, g8⟩ := q3'; have M3 := Lib.hid ((M2.out.call hb).push w3.heap.size (lc noL) 46 rfl); clear hb)
    | (go_at_call 46; (with_reducible refine (of_no (HR.out.below P3.out) noR_L _ _ _).mono ?_); rintro e w4 ⟨rfl, hb⟩; have B4 := Lib.hid (P3.out.trans (hb.mono P3.out.size)); have P4 := Lib.hid (B4.out.alloc B4.out.size (.cells (lc noL) 46)); have q4 := box_at B4.out; have q4' := ref_at HRL.out HW.out HNM.out B4.out; obtain ⟨g1, g2, g3, g4, g5⟩ := q4; obtain ⟨g6, g7, g8⟩ := q4'; have M4 := Lib.hid ((M3.out.call hb).push w4.heap.size (lc noL) 46 rfl); clear hb)
    | (go_at_call 25; (with_reducible refine (at_nil _ _ _).mono ?_); rintro e w5 ⟨rfl, hb⟩; have B5 := Lib.hid (P4.out.trans (hb.mono P4.out.size)); have P5 := Lib.hid (B5.out.alloc B5.out.size (.cells (lc noL) 46)); have q5 := box_at B5.out; have q5' := ref_at HRL.out HW.out HNM.out B5.out; obtain ⟨g1, g2, g3, g4, g5⟩ := q5; obtain ⟨g6, g7, g8⟩ := q5'; have M5 := Lib.hid ((M4.out.call hb).push w5.heap.size (lc noL) 46 rfl); clear hb)
    | (go_at_call 47; (with_reducible refine (rat_no (HR.out.below P5.out) noR_L _ _).mono ?_); rintro e w6 ⟨rfl, hb⟩; have B6 := Lib.hid (P5.out.trans (hb.mono P5.out.size)); have P6 := Lib.hid (B6.out.alloc B6.out.size (.cells (lc noL) 46)); have q6 := box_at B6.out; have q6' := ref_at HRL.out HW.out HNM.out B6.out; obtain ⟨g1, g2, g3, g4, g5⟩ := q6; obtain ⟨g6, g7, g8⟩ := q6'; have M6 := Lib.hid (M5.out.call hb); obtain ⟨a00, a01, a02, a03, a04, a05, -, -, -, -, -, -, a0l⟩ := M6.out.lay6 4 rfl; obtain ⟨a10, a11, a12, a13, a14, a15, -, -, -, -, -, -, a1l⟩ := M6.out.lay6 3 rfl; obtain ⟨a20, a21, a22, a23, a24, a25, -, -, -, -, -, -, a2l⟩ := M6.out.lay6 2 rfl; obtain ⟨a30, a31, a32, a33, a34, a35, -, -, -, -, -, -, a3l⟩ := M6.out.lay6 1 rfl; obtain ⟨a40, a41, a42, a43, a44, a45, -, -, -, -, -, -, a4l⟩ := M6.out.lay6 0 rfl; clear hb))
  have M7 := Lib.hid (M6.out.push w6.heap.size (lc noL) 46 rfl)
  have P67 := Lib.hid P6.out
  clear M1 M2 M3 M4 M5 M6 P1 P2 P3 P4 P5 P6 B1 B2 B3 B4 B5 B6
  refine wp_region_grow (AlS (w.alloc (.cells #[.int .i64 k, .int .i64 v, .int .i64 f, .int .i64 d, .int .i64 x] 42)) w1 w6.heap.size w5.heap.size w4.heap.size w3.heap.size w2.heap.size w1.heap.size) (by kernel_rfl) (by kernel_rfl) ⟨M7.out.drew, P67.out.drew⟩ ?_
  try simp only [List.append_eq, List.cons_append, List.nil_append]
  repeat first
           | (apply gRow_plain
              · exact rfl
              · intro wg hg
                ((have hgb := AlS.below hg; obtain ⟨g1, g2, g3, g4, g5⟩ := box_at hg.2; obtain ⟨g6, g7, g8⟩ := ref_at HRL.out HW.out HNM.out hg.2; obtain ⟨x0, x1, x2, x3, x4, x5, -⟩ := hg.1.lay6 0 rfl; obtain ⟨y0, y1, y2, y3, y4, y5, -⟩ := hg.1.lay6 1 rfl; obtain ⟨z0, z1, z2, z3, z4, z5, -⟩ := hg.1.lay6 2 rfl; obtain ⟨t0, t1, t2, t3, t4, t5, -⟩ := hg.1.lay6 3 rfl; obtain ⟨u0, u1, u2, u3, u4, u5, -⟩ := hg.1.lay6 4 rfl; obtain ⟨v0, v1, v2, v3, v4, v5, -⟩ := hg.1.lay6 5 rfl))
                go_simp
                first
                  | exact rfl
                  | exact hg
                  | exact ⟨hg, rfl⟩
                  | ((first
| ((with_reducible refine (free_nil _ _ HF.out _).mono ?_); rintro e w' ⟨rfl, hb⟩; exact ⟨rfl, hg.step hb⟩)
| ((with_reducible refine (rfree_no (HR.out.below hgb) noR_L _ _ HF.out).mono ?_); rintro e w' ⟨rfl, hb⟩; exact ⟨rfl, hg.step hb⟩)
| ((with_reducible refine (judge_nil _ _ _ _ _).mono ?_); rintro e w' ⟨rfl, hb⟩; exact ⟨rfl, hg.step hb⟩)
| ((with_reducible refine (rjudge_no (HR.out.below hgb) _ _ _ _).mono ?_); rintro e w' ⟨rfl, hb⟩; exact ⟨rfl, hg.step hb⟩)
| ((with_reducible refine (term_nil _).mono ?_); rintro e w' ⟨rfl, hb⟩; exact ⟨rfl, hg.step hb⟩)
| ((with_reducible refine (leases_nil _).mono ?_); rintro e w' ⟨rfl, hb⟩; exact ⟨rfl, hg.step hb⟩)
| ((with_reducible refine (same_no _ _ _ _ _).mono ?_); rintro e w' ⟨rfl, hb⟩; exact ⟨rfl, hg.step hb⟩)))
              intro K hK
              go_simp
              refine hK _ ?_
              clear hK K)
           | (apply gRow_step
              · go_simp; done
              · intro wg hg
                ((have hgb := AlS.below hg; obtain ⟨g1, g2, g3, g4, g5⟩ := box_at hg.2; obtain ⟨g6, g7, g8⟩ := ref_at HRL.out HW.out HNM.out hg.2; obtain ⟨x0, x1, x2, x3, x4, x5, -⟩ := hg.1.lay6 0 rfl; obtain ⟨y0, y1, y2, y3, y4, y5, -⟩ := hg.1.lay6 1 rfl; obtain ⟨z0, z1, z2, z3, z4, z5, -⟩ := hg.1.lay6 2 rfl; obtain ⟨t0, t1, t2, t3, t4, t5, -⟩ := hg.1.lay6 3 rfl; obtain ⟨u0, u1, u2, u3, u4, u5, -⟩ := hg.1.lay6 4 rfl; obtain ⟨v0, v1, v2, v3, v4, v5, -⟩ := hg.1.lay6 5 rfl))
                go_simp
                first
                  | exact rfl
                  | exact hg
                  | exact ⟨hg, rfl⟩
                  | ((first
| ((with_reducible refine (free_nil _ _ HF.out _).mono ?_); rintro e w' ⟨rfl, hb⟩; exact ⟨rfl, hg.step hb⟩)
| ((with_reducible refine (rfree_no (HR.out.below hgb) noR_L _ _ HF.out).mono ?_); rintro e w' ⟨rfl, hb⟩; exact ⟨rfl, hg.step hb⟩)
| ((with_reducible refine (judge_nil _ _ _ _ _).mono ?_); rintro e w' ⟨rfl, hb⟩; exact ⟨rfl, hg.step hb⟩)
| ((with_reducible refine (rjudge_no (HR.out.below hgb) _ _ _ _).mono ?_); rintro e w' ⟨rfl, hb⟩; exact ⟨rfl, hg.step hb⟩)
| ((with_reducible refine (term_nil _).mono ?_); rintro e w' ⟨rfl, hb⟩; exact ⟨rfl, hg.step hb⟩)
| ((with_reducible refine (leases_nil _).mono ?_); rintro e w' ⟨rfl, hb⟩; exact ⟨rfl, hg.step hb⟩)
| ((with_reducible refine (same_no _ _ _ _ _).mono ?_); rintro e w' ⟨rfl, hb⟩; exact ⟨rfl, hg.step hb⟩)))
              intro K hK
              go_simp
              refine hK _ ?_
              clear hK K)
           | (apply gRow_not
              · go_simp; done
              intro K hK
              go_simp
              refine hK _ ?_
              clear hK K)
  refine gRow_nil ?_
  rintro w9 hq
  have B13 := Lib.hid hq.2
  clear hq
  go_wp2_with fail
  go_ret
  exact ⟨rfl, HB0.out.trans (B13.out.mono HB0.out.size)⟩
end Go.Proofs.Ytnhpjmjinchamaa
