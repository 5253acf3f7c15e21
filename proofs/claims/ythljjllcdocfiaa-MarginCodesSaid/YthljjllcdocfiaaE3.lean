/- Walk: awake. -/
import Derived.Test.YthljjllcdocfiaaE2
set_option linter.unusedVariables false
set_option linter.unusedSimpArgs false
set_option linter.unnecessarySimpa false
namespace Go.Proofs.Ythljjllcdocfiaa
open Go Go.RowKit Go.MapKept

theorem groups0 (w2 : World) : RR (((w2.alloc (.cells #[.int .i64 5] 3)).alloc (.cells #[.int .i64 6, .int .i64 7] 3)).alloc (.cells #[.slice (some ⟨w2.heap.size, 0, none⟩) 1 1, .slice (some ⟨w2.heap.size + 1, 0, none⟩) 2 2] 31)) (.slice (some ⟨w2.heap.size + 1 + 1, 0, none⟩) 2 2)
    [(some ⟨w2.heap.size, 0, none⟩, 1, 1), (some ⟨w2.heap.size + 1, 0, none⟩, 2, 2)] [[5], [6, 7]] := by
  have h1 : Rd eI (w2.alloc (.cells #[.int .i64 5] 3)) (.slice (some ⟨w2.heap.size, 0, none⟩) 1 1) [5] := Rd.new (E := eI) w2 [5] (by decide) 3
  have h2 : Rd eI ((w2.alloc (.cells #[.int .i64 5] 3)).alloc (.cells #[.int .i64 6, .int .i64 7] 3)) (.slice (some ⟨w2.heap.size + 1, 0, none⟩) 2 2) [6, 7] := by
    have := Rd.new (E := eI) (w2.alloc (.cells #[.int .i64 5] 3)) [6, 7] (by decide) 3
    rw [show (w2.alloc (.cells #[.int .i64 5] 3)).heap.size = w2.heap.size + 1 by simp] at this
    exact this
  have h3 := Rd.new (E := eH) ((w2.alloc (.cells #[.int .i64 5] 3)).alloc (.cells #[.int .i64 6, .int .i64 7] 3)) [(some ⟨w2.heap.size, 0, none⟩, 1, 1), (some ⟨w2.heap.size + 1, 0, none⟩, 2, 2)] (by simp) 31
  rw [show ((w2.alloc (.cells #[.int .i64 5] 3)).alloc (.cells #[.int .i64 6, .int .i64 7] 3)).heap.size = w2.heap.size + 1 + 1 by simp] at h3
  refine ⟨h3, rfl, fun i x r hx hr => ?_⟩
  match i, hx, hr with
  | 0, hx, hr => cases hx; cases hr; exact (h1.keep (below_alloc _ _)).keep (below_alloc _ _)
  | 1, hx, hr => cases hx; cases hr; exact h2.keep (below_alloc _ _)
  | i + 2, hx, hr => simp at hx

/-- the first set of the list of cuts, in memory -/
theorem first_set {w : World} {p : Option Addr} {c : Nat} {hs : List Hd} (h : RR w (.slice p 3 c) hs [[5, 6], [5, 7], [6, 7]]) : ∃ b off xb xo xc, p = some ⟨b, off, none⟩ ∧ b < w.heap.size ∧ w.cell? ⟨b, off, none⟩ = some (.slice (some ⟨xb, xo, none⟩) 2 xc) ∧ xb < w.heap.size ∧ w.cell? ⟨xb, xo, none⟩ = some (.int .i64 5) ∧ w.cell? ⟨xb, xo + 1, none⟩ = some (.int .i64 6) := by
  have hl : 0 < hs.length := by rw [h.len]; decide
  obtain ⟨x, hx⟩ : ∃ x, hs[0]? = some x := ⟨hs[0], by simp [hl]⟩
  obtain ⟨b, off, rfl, hb, c0⟩ := h.rd.hd hx
  have hr := h.row 0 x [5, 6] hx rfl
  obtain ⟨xa, xn, xc⟩ := x
  have hr : Rd eI w (.slice xa xn xc) [5, 6] := hr
  obtain rfl : xn = 2 := hr.caps.2.2
  obtain ⟨xb, xo, rfl, hxb, c1⟩ := hr.int (i := 0) (by decide)
  have c2 := hr.int' (i := 1) (by decide)
  exact ⟨b, off, xb, xo, xc, rfl, hb, c0, hxb, c1, c2⟩

set_option maxHeartbeats 8000000 in
set_option maxRecDepth 20000 in
theorem awake_any (w : World) : Calls Try.prog 12 #[] w fun e w' => e = .returned (.bool true) ∧ Below w.heap.size w w' := by
  have HL := Lib.hid (show Rd eC (w.alloc (.cells #[.int .i64 0, .int .i64 5, .int .i64 1, .int .i64 1, .int .i64 6, .int .i64 1, .int .i64 2, .int .i64 7, .int .i64 1] 44)) (.slice (some ⟨w.heap.size, 0, none⟩) 3 3) l0 from Rd.new (E := eC) w l0 (by decide) 44)
  have HB := Lib.hid (below_alloc w (.cells #[.int .i64 0, .int .i64 5, .int .i64 1, .int .i64 1, .int .i64 6, .int .i64 1, .int .i64 2, .int .i64 7, .int .i64 1] 44))
  go_enter Try.func12, Try.ntmps12
  go_wp2_with (first
    | (go_at_call 15; (with_reducible refine (Margin_as _ 2 1 l0 _ HL.out marg0).mono ?_); rintro e w1 ⟨rfl, hb⟩; have HL1 := Lib.hid (HL.out.keep hb); have HB1 := Lib.hid (HB.out.trans (hb.mono HB.out.size)); clear hb)
    | (go_at_call 22; (with_reducible refine (Cuts_as _ 2 1 l0 _ HL1.out (by decide) cuts0).mono ?_); rintro e w2 ⟨cp, cc, chs, rfl, ho⟩; have HC2 := Lib.hid (first_set (ho.rr (by decide))); have HL2 := Lib.hid (HL1.out.keep ho.own.below); have HB2 := Lib.hid (HB1.out.trans (ho.own.below.mono HB1.out.size)); have HG2 := Lib.hid (groups0 w2); have A1 := below_alloc w2 (.cells #[.int .i64 5] 3); have A2 := A1.trans ((below_alloc (w2.alloc (.cells #[.int .i64 5] 3)) (.cells #[.int .i64 6, .int .i64 7] 3)).mono A1.size); have A3 := Lib.hid (A2.trans ((below_alloc ((w2.alloc (.cells #[.int .i64 5] 3)).alloc (.cells #[.int .i64 6, .int .i64 7] 3)) (.cells #[.slice (some ⟨w2.heap.size, 0, none⟩) 1 1, .slice (some ⟨w2.heap.size + 1, 0, none⟩) 2 2] 31)).mono A2.size)); clear ho A1 A2)
    | (go_at_call 27; (with_reducible refine (Weakest_as 2 1 l0 _ (HL2.out.keep A3.out) (by decide) HG2.out (by intro _ _ r hr; simp at hr; rcases hr with rfl | rfl <;> decide) weak0).mono ?_); rintro e w5 ⟨wp, wc, rfl, hw, hb⟩; have HB5 := Lib.hid (HB2.out.trans ((A3.out.trans (hb.mono A3.out.size)).mono HB2.out.size)); have HL5 := Lib.hid ((HL2.out.keep A3.out).keep hb); have hbb := A3.out.trans (hb.mono A3.out.size); obtain ⟨g, go, xb, xo, xc, rfl, h1, h2, h3, h4, h5⟩ := HC2.out; have k1 := (hbb.cell (p := ⟨g, go, none⟩) h1).trans h2; have k2 := (hbb.cell (p := ⟨xb, xo, none⟩) h3).trans h4; have k3 := (hbb.cell (p := ⟨xb, xo + 1, none⟩) h3).trans h5; have k4 := Nat.lt_of_lt_of_le h1 hbb.size; have k5 := Nat.lt_of_lt_of_le h3 hbb.size; obtain ⟨wb, wo, rfl, k6, k7⟩ := hw.int (i := 0) (by decide); have k7 : w5.cell? ⟨wb, wo, none⟩ = some (.int .i64 1) := k7; have HL6 := Lib.hid (HL5.out.keep (below_alloc w5 (.cells #[.int .i64 5] 3))); have HD6 := Lib.hid (show Rd eI (w5.alloc (.cells #[.int .i64 5] 3)) (.slice (some ⟨w5.heap.size, 0, none⟩) 1 1) [5] from Rd.new (E := eI) w5 [5] (by decide) 3); have HB6 := Lib.hid (HB5.out.trans ((below_alloc w5 (.cells #[.int .i64 5] 3)).mono HB5.out.size)); clear hw hb hbb h1 h2 h3 h4 h5)
    | (go_at_call 20; (with_reducible refine (Survives_as _ _ 2 1 l0 [5] _ HL6.out HD6.out (by decide) surv1).mono ?_); rintro e w7 ⟨rfl, hb⟩; have HL7 := Lib.hid ((HL6.out.keep hb).keep (below_alloc w7 (.cells #[.int .i64 5, .int .i64 7] 3))); have HB7 := Lib.hid (HB6.out.trans (hb.mono HB6.out.size)); have HB8 := Lib.hid (HB7.out.trans ((below_alloc w7 (.cells #[.int .i64 5, .int .i64 7] 3)).mono HB7.out.size)); have HD7 := Lib.hid (show Rd eI (w7.alloc (.cells #[.int .i64 5, .int .i64 7] 3)) (.slice (some ⟨w7.heap.size, 0, none⟩) 2 2) [5, 7] from Rd.new (E := eI) w7 [5, 7] (by decide) 3); clear hb k1 k2 k3 k4 k5 k6 k7)
    | (go_at_call 20; (with_reducible refine (Survives_as _ _ 2 1 l0 [5, 7] _ HL7.out HD7.out (by decide) surv2).mono ?_); rintro e w9 ⟨rfl, hb⟩; have HB9 := Lib.hid (HB8.out.trans (hb.mono HB8.out.size)); clear hb))
  go_ret
  exact ⟨rfl, HB9.out⟩
end Go.Proofs.Ythljjllcdocfiaa
