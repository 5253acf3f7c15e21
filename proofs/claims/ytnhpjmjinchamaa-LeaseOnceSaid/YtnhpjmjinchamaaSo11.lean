/- sort.pdqsort_func with a closure that may lay blocks. -/
import Derived.Test.YtnhpjmjinchamaaSo1
import Derived.Test.YtnhpjmjinchamaaSo9
import Derived.Test.YtnhpjmjinchamaaSo10
set_option linter.unusedVariables false
set_option linter.unusedSimpArgs false
set_option linter.unnecessarySimpa false
namespace Go.Proofs.Ytnhpjmjinchamaa
open Go Go.Shelf Go.RowKit Go.Lib
open Go.Sort (swp size_swp pdq rd SWO reverseRange breakPatterns insertionSort heapSort partition partitionEqual partialInsertionSort hintCode hintOf choosePivot rd_facts rd_dec rd_not rd_pi_yes rd_pi_no rd_lim_le rd_c pdq_small pdq_heap pdq_done pdq_eq pdq_left pdq_right reverseRange_holds breakPatterns_holds partialInsertionSort_holds partition_holds partitionEqual_holds round_part round_eq pdq_sorts)
variable {P : Program} {ρ : Ren} {α : Type} [Inhabited α]

theorem rev_x (L : LaysGg.n30 P ρ) (C : SC P α) (a b : Nat) (d : Array α) (w : World) (h : At0 C w d) (hab : a ≤ b) (hb : b ≤ C.n) :
    Calls P (ρ.f 30) #[.agg #[.func (.func C.g) #[] C.lb, .func (.func C.sf) #[] C.sb], .int .i64 a, .int .i64 b] w fun e w' => e = .returned (.tuple #[]) ∧ Sv C w (reverseRange d a b) w' := by
  have hs := h.size
  refine (Any.reverseRange_func_cells_w L C.enc C.k C.hk (.func C.g) #[] C.lb C.sf C.sb C.blk C.off a b d w (by rw [hs]; exact C.swap) h.holds h.lt hab (by omega) (by rw [hs]; exact C.hn)).mono ?_
  rintro e w' ⟨he, hw⟩
  exact ⟨he, Sv.of_world h ((reverseRange_holds d a b hab (by omega)).1.trans hs) hw⟩
theorem break_x (L : LaysGg.n28 P ρ) (C : SC P α) (a b : Nat) (d : Array α) (w : World) (h : At0 C w d) (hab : a ≤ b) (hb : b ≤ C.n) :
    Calls P (ρ.f 28) #[.agg #[.func (.func C.g) #[] C.lb, .func (.func C.sf) #[] C.sb], .int .i64 a, .int .i64 b] w fun e w' => e = .returned (.tuple #[]) ∧ Sv C w (breakPatterns d a b) w' := by
  have hs := h.size
  refine (Any.breakPatterns_func_cells_w L C.enc C.k C.hk (.func C.g) #[] C.lb C.sf C.sb C.blk C.off a b d w (by rw [hs]; exact C.swap) h.holds h.lt hab (by omega) (by rw [hs]; exact C.hn)).mono ?_
  rintro e w' ⟨he, hw⟩
  exact ⟨he, Sv.of_world h ((breakPatterns_holds d a b hab (by omega)).1.trans hs) hw⟩

set_option maxHeartbeats 16000000 in
set_option maxRecDepth 1000000 in
theorem pdq_x (L : LaysGg.n14 P ρ) (C : SC P α) (hO : SWO C.lt) : ∀ (N a b limit : Nat) (d : Array α) (w : World), b - a < N → At0 C w d → a ≤ b → b ≤ C.n → limit < 4611686018427387904 → Go.Sort.Below C.lt a b d →
    Calls P (ρ.f 14) #[.agg #[.func (.func C.g) #[] C.lb, .func (.func C.sf) #[] C.sb], .int .i64 a, .int .i64 b, .int .i64 limit] w fun e w' => e = .returned (.tuple #[]) ∧ Sv C w (pdq C.lt d a b limit true true) w' := by
  (have mixed := L.mixed; have t0 := L.t0; have a0 := L.a0; have z0 := L.z0; have v0 := L.v0; have t3 := L.t3; have a3 := L.a3; have z3 := L.z3; have v3 := L.v3; have t4 := L.t4; have a4 := L.a4; have z4 := L.z4; have v4 := L.v4; have t26 := L.t26; have a26 := L.a26; have z26 := L.z26; have v26 := L.v26; have t37 := L.t37; have a37 := L.a37; have z37 := L.z37; have v37 := L.v37; have t44 := L.t44; have a44 := L.a44; have z44 := L.z44; have v44 := L.v44; have u44 := run_underlying L.t44; have eg := C.eg)
  have t5 := L.t5; have a5 := L.a5; have z5 := L.z5; have v5 := L.v5; have t9 := L.t9; have a9 := L.a9; have z9 := L.z9; have v9 := L.v9; have t41 := L.t41; have a41 := L.a41; have z41 := L.z41; have v41 := L.v41; have t49 := L.t49; have a49 := L.a49; have z49 := L.z49; have v49 := L.v49; have t51 := L.t51; have a51 := L.a51; have z51 := L.z51; have v51 := L.v51
  have t53 := L.t53; have a53 := L.a53; have z53 := L.z53; have v53 := L.v53; have t54 := L.t54; have a54 := L.a54; have z54 := L.z54; have v54 := L.v54; have t58 := L.t58; have a58 := L.a58; have z58 := L.z58; have v58 := L.v58; have t60 := L.t60; have a60 := L.a60; have z60 := L.z60; have v60 := L.v60; have t64 := L.t64; have a64 := L.a64; have z64 := L.z64; have v64 := L.v64
  have t66 := L.t66; have a66 := L.a66; have z66 := L.z66; have v66 := L.v66; have t67 := L.t67; have a67 := L.a67; have z67 := L.z67; have v67 := L.v67
  have e26 : ∀ args w, (callFunc (ρ.f 26) args).run P w = .ok (.enter (ρ.f 26) args) w := enters_of L.f26 (by kernel_rfl) rfl
  have e27 : ∀ args w, (callFunc (ρ.f 27) args).run P w = .ok (.enter (ρ.f 27) args) w := enters_of L.f27 (by kernel_rfl) rfl
  have e28 : ∀ args w, (callFunc (ρ.f 28) args).run P w = .ok (.enter (ρ.f 28) args) w := enters_of L.f28 (by kernel_rfl) rfl
  have e29 : ∀ args w, (callFunc (ρ.f 29) args).run P w = .ok (.enter (ρ.f 29) args) w := enters_of L.f29 (by kernel_rfl) rfl
  have e30 : ∀ args w, (callFunc (ρ.f 30) args).run P w = .ok (.enter (ρ.f 30) args) w := enters_of L.f30 (by kernel_rfl) rfl
  have e31 : ∀ args w, (callFunc (ρ.f 31) args).run P w = .ok (.enter (ρ.f 31) args) w := enters_of L.f31 (by kernel_rfl) rfl
  have e32 : ∀ args w, (callFunc (ρ.f 32) args).run P w = .ok (.enter (ρ.f 32) args) w := enters_of L.f32 (by kernel_rfl) rfl
  have e33 : ∀ args w, (callFunc (ρ.f 33) args).run P w = .ok (.enter (ρ.f 33) args) w := enters_of L.f33 (by kernel_rfl) rfl
  have e14 : ∀ args w, (callFunc (ρ.f 14) args).run P w = .ok (.enter (ρ.f 14) args) w := enters_of L.f14 (by kernel_rfl) rfl
  have hn := C.hn
  intro N
  induction N with
  | zero => intro _ _ _ _ _ h; exact absurd h (Nat.not_lt_zero _)
  | succ N ih =>
    intro a b limit d w hN h hab hb hlimit hBel0
    have HB0 := Lib.hid (Bx.enter h (ρ.t 44))
    have HBel0 := Lib.hid hBel0
    clear h hBel0
    go_enter L.f14, BodyGg.n14_ntmps ρ
    go_wp2
    go_loopg [1, 2, 3, 8, 9] (b - a) (fun kx s1 s2 s3 s8 s9 wr => ∃ (a' b' lim : Nat) (wb wp : Bool) (dk : Array α), s1 = .int .i64 a' ∧ s2 = .int .i64 b' ∧ s3 = .int .i64 lim ∧ s8 = .bool wb ∧ s9 = .bool wp ∧
      a' ≤ b' ∧ b' ≤ C.n ∧ b' - a' ≤ kx ∧ kx ≤ b - a ∧ lim ≤ limit ∧ Hid (Go.Sort.Below C.lt a' b' dk) ∧ Hid (Bx C w w.heap.size dk wr) ∧ Hid (pdq C.lt dk a' b' lim wb wp = pdq C.lt d a b limit true true))
    case atStart => exact ⟨a, b, limit, true, true, d, rfl, rfl, rfl, rfl, rfl, hab, hb, Nat.le_refl _, Nat.le_refl _, Nat.le_refl _, HBel0, HB0, Lib.hid rfl⟩
    case round =>
      rename World => wr
      obtain ⟨a', b', lim, wb, wp, dk, rfl, rfl, rfl, rfl, rfl, hab', hb', hkx, hkN, hlim, HBel, HB, HA⟩ := hrel
      have hds := HB.out.size
      have x0 := HB.out.b0
      have x1 := HB.out.b1
      by_cases h12 : b' - a' ≤ 12
      · have h12z : (b' : Int) - (a' : Int) ≤ 12 := by omega
        have hc := Lib.hid (insertion_x (P := P) (ρ := ρ) { L with } C a' b' dk wr HB.out.base hab' hb')
        go_wp2_with (go_at_fn (ρ.f 26); (with_reducible refine hc.out.mono ?_); rintro e w1 ⟨rfl, hw1⟩; have HS := Lib.hid (HB.out.call hw1); clear hw1)
        ((try simp only [Exit.inBlock, Exit.then]); refine bodyPost_ret (results_none rfl _ _ _) rfl ?_)
        refine ⟨rfl, ?_⟩
        rw [← HA.out, pdq_small h12]
        exact HS.out.sv
      · have h12z : ¬ ((b' : Int) - (a' : Int) ≤ 12) := by omega
        by_cases hl0 : lim = 0
        · subst hl0
          have hc := Lib.hid (heap_x (P := P) (ρ := ρ) { L with } C a' b' dk wr HB.out.base hab' hb')
          go_wp2_with (go_at_fn (ρ.f 27); (with_reducible refine hc.out.mono ?_); rintro e w1 ⟨rfl, hw1⟩; have HS := Lib.hid (HB.out.call hw1); clear hw1)
          ((try simp only [Exit.inBlock, Exit.then]); refine bodyPost_ret (results_none rfl _ _ _) rfl ?_)
          refine ⟨rfl, ?_⟩
          rw [← HA.out, pdq_heap h12 rfl]
          exact HS.out.sv
        · have hl0z : ¬ ((lim : Int) = 0) := by omega
          obtain ⟨q1, B1, hc1, q2, B2, hpv, q3, B3⟩ := rd_facts (lt := C.lt) (limit := lim) (wb := wb) (wp := wp) hO partialInsertionSort_holds reverseRange_holds (show a' < b' by omega) (show b' ≤ dk.size by omega) HBel.out
          have HB3 := Lib.hid B3
          clear B1 B2 B3
          go_upto_if 35 with fail
          go_cut [3] from 19 (fun s3 wc => s3 = .int .i64 (rd C.lt dk a' b' lim wb wp).lim ∧ Hid (Bx C w w.heap.size (rd C.lt dk a' b' lim wb wp).d1 wc))
          case first =>
            cases wb
            · have hc := Lib.hid (break_x (P := P) (ρ := ρ) { L with } C a' b' dk wr HB.out.base hab' hb')
              go_wp2_with (go_at_fn (ρ.f 28); (with_reducible refine hc.out.mono ?_); rintro e w1 ⟨rfl, hw1⟩; have HS := Lib.hid (HB.out.call hw1); clear hw1)
              go_meet
              case rel =>
                refine ⟨?_, HS⟩
                show Value.int .i64 ((lim : Int) - 1) = Value.int .i64 ((lim - 1 : Nat) : Int)
                congr 1
                omega
            · go_wp2_with fail
              go_meet
              case rel => exact ⟨rfl, HB⟩
          case rest =>
            rename World => wc1
            obtain ⟨rfl, HC1⟩ := hcut
            clear x0 x1
            have x0 := HC1.out.b0
            have x1 := HC1.out.b1
            have hc17 := Lib.hid (pivot_x (P := P) (ρ := ρ) { L with } C a' b' (rd C.lt dk a' b' lim wb wp).d1 wc1 HC1.out.base (by omega) hb' (pv := (rd C.lt dk a' b' lim wb wp).c.1) (hc := hintCode (rd C.lt dk a' b' lim wb wp).c.2) ⟨rfl, rfl⟩)
            go_upto_if 50 with (go_at_fn (ρ.f 29); (with_reducible refine hc17.out.mono ?_); rintro e w2 ⟨rfl, hw2⟩; have HC2 := Lib.hid (HC1.out.grow hw2); clear hw2)
            clear x0 x1
            have x0 := HC2.out.b0
            have x1 := HC2.out.b1
            go_cut [11, 12] from 19 (fun s11 s12 wc => s11 = .int .i64 (rd C.lt dk a' b' lim wb wp).pivot ∧ s12 = .int .i64 (hintCode (rd C.lt dk a' b' lim wb wp).hint) ∧ Hid (Bx C w w.heap.size (rd C.lt dk a' b' lim wb wp).d2 wc))
            case first =>
              by_cases hh : (rd C.lt dk a' b' lim wb wp).c.2 = .decreasing
              · have hcode : hintCode (rd C.lt dk a' b' lim wb wp).c.2 = 2 := by rw [hh]; rfl
                obtain ⟨e2, epv, eht⟩ := rd_dec hh
                have hc18 := Lib.hid (rev_x (P := P) (ρ := ρ) { L with } C a' b' (rd C.lt dk a' b' lim wb wp).d1 w2 HC2.out.base hab' hb')
                go_wp2_with (go_at_fn (ρ.f 30); (with_reducible refine hc18.out.mono ?_); rintro e w3 ⟨rfl, hw3⟩; have HC3 := Lib.hid (HC2.out.call hw3); clear hw3)
                go_meet
                case rel =>
                  refine ⟨?_, by rw [eht]; rfl, by rw [e2]; exact HC3⟩
                  rw [epv]
                  congr 1
                  omega
              · have hcode : ¬ (hintCode (rd C.lt dk a' b' lim wb wp).c.2 = 2) := fun h => hh (hintCode_two h)
                obtain ⟨e2, epv, eht⟩ := rd_not hh
                go_wp2_with fail
                go_meet
                case rel => exact ⟨by rw [epv], by rw [eht], by rw [e2]; exact HC2⟩
            case rest =>
              rename World => wc3
              obtain ⟨rfl, rfl, HC3⟩ := hcut
              clear x0 x1
              have x0 := HC3.out.b0
              have x1 := HC3.out.b1
              go_upto_region 16 with fail
              go_cut [12, 68] from 19 (fun s12 s68 wx => s12 = .int .i64 (hintCode (rd C.lt dk a' b' lim wb wp).hint) ∧ s68 = .bool (wb && wp && decide ((rd C.lt dk a' b' lim wb wp).hint = .increasing)) ∧ wx = wc3)
              case first =>
                cases wb <;> cases wp <;> cases hh3 : (rd C.lt dk a' b' lim _ _).hint <;>
                  (have hcode3 := congrArg hintCode hh3
                   simp only [hintCode] at hcode3
                   go_wp2_with fail
                   go_meet
                   exact ⟨by simp [hh3, hintCode], by simp [hh3, hintCode], rfl⟩)
              case rest =>
                obtain ⟨rfl, rfl, rfl⟩ := hcut
                rename World => wc4
                go_upto_if 68 with fail
                go_cut [] from 19 (fun wx => (rd C.lt dk a' b' lim wb wp).pi.2 = false ∧ Hid (Bx C w w.heap.size (rd C.lt dk a' b' lim wb wp).pi.1 wx))
                case first =>
                  cases h68 : (wb && wp && decide ((rd C.lt dk a' b' lim wb wp).hint = .increasing))
                  · have epi := rd_pi_no h68
                    go_wp2_with fail
                    go_meet
                    case rel => exact ⟨by rw [epi], by rw [epi]; exact HC3⟩
                  · have epi := rd_pi_yes h68
                    have hc19 := partial_x (P := P) (ρ := ρ) { L with } C a' b' (rd C.lt dk a' b' lim wb wp).d2 wc4 HC3.out.base (by omega) hb'
                    rw [← epi] at hc19
                    have hc19 := Lib.hid hc19
                    go_wp2_with (go_at_fn (ρ.f 31); (with_reducible refine hc19.out.mono ?_); rintro e w4 ⟨rfl, hw4⟩; have HC4 := Lib.hid (HC3.out.call hw4); clear hw4)
                    all_goals first
                      | (have hp2 : (rd C.lt dk a' b' lim wb wp).pi.2 = false := by rw [epi]; assumption
                         go_meet
                         exact ⟨hp2, HC4⟩)
                      | (have hp2 : (rd C.lt dk a' b' lim wb wp).pi.2 = true := by rw [epi]; assumption
                         ((try simp only [Exit.inBlock, Exit.then]); refine bodyPost_ret (results_none rfl _ _ _) rfl ?_)
                         refine ⟨rfl, ?_⟩
                         rw [← HA.out, pdq_done h12 hl0 hp2]
                         exact HC4.out.sv)
                case rest =>
                  rename World => wc5
                  obtain ⟨hp2, HC5⟩ := hcut
                  clear x0 x1
                  have x0 := HC5.out.b0
                  have x1 := HC5.out.b1
                  go_upto_region 18 with fail
                  go_cut [83] from 19 (fun s83 wx => s83 = .bool (decide (a' > 0) && !C.lt (rd C.lt dk a' b' lim wb wp).pi.1[a' - 1]! (rd C.lt dk a' b' lim wb wp).pi.1[(rd C.lt dk a' b' lim wb wp).pivot]!) ∧ Hid (Bx C w w.heap.size (rd C.lt dk a' b' lim wb wp).pi.1 wx))
                  case first =>
                    rcases Nat.eq_zero_or_pos a' with ha0 | ha0
                    · have ha0z : decide ((a' : Int) > 0) = false := decide_eq_false (by omega)
                      go_wp2_with fail
                      go_meet
                      case rel => exact ⟨by simp [ha0], HC5⟩
                    · have ha0z : (a' : Int) > 0 := by omega
                      cases hlv : C.lt (rd C.lt dk a' b' lim wb wp).pi.1[a' - 1]! (rd C.lt dk a' b' lim wb wp).pi.1[(rd C.lt dk a' b' lim wb wp).pivot]! <;>
                        (have hl := Lib.hid (HC5.out.less (x := (a' : Int) - 1) (y := ((rd C.lt dk a' b' lim wb wp).pivot : Int)) (i := a' - 1) (j := (rd C.lt dk a' b' lim wb wp).pivot) (by omega) rfl (by omega) (by omega) hlv)
                         go_wp2_with (go_at_fn C.g; (with_reducible refine hl.out.mono ?_); rintro e w' ⟨rfl, hb6⟩; have HC6 := Lib.hid hb6; clear hb6)
                         go_meet
                         exact ⟨by simp [ha0, hlv], HC6⟩)
                  case rest =>
                    rename World => wc6
                    obtain ⟨rfl, HC6⟩ := hcut
                    clear x0 x1
                    have x0 := HC6.out.b0
                    have x1 := HC6.out.b1
                    have hd6 := HC6.out.size
                    cases h87 : (decide (a' > 0) && !C.lt (rd C.lt dk a' b' lim wb wp).pi.1[a' - 1]! (rd C.lt dk a' b' lim wb wp).pi.1[(rd C.lt dk a' b' lim wb wp).pivot]!)
                    · obtain ⟨mid, ap, d4, hx⟩ : ∃ mid ap d4, partition C.lt (rd C.lt dk a' b' lim wb wp).pi.1 a' b' (rd C.lt dk a' b' lim wb wp).pivot = (mid, ap, d4) := ⟨_, _, _, rfl⟩
                      obtain ⟨r1, r2, r3, r4, r5, r6, r7⟩ := round_part hO (partition_holds C.lt) hpv.1 hpv.2 (show b' ≤ (rd C.lt dk a' b' lim wb wp).pi.1.size by omega) HB3.out hx
                      have hc22 := part_x (P := P) (ρ := ρ) { L with } C a' b' (rd C.lt dk a' b' lim wb wp).pivot (rd C.lt dk a' b' lim wb wp).pi.1 wc6 HC6.out.base hpv.1 hpv.2 hb'
                      rw [hx] at hc22
                      have hc22 := Lib.hid hc22
                      have HX := Lib.hid hx
                      have R4 := Lib.hid r4
                      have R5 := Lib.hid r5
                      have R6 := Lib.hid r6
                      have R7 := Lib.hid r7
                      clear hx r4 r5 r6 r7
                      go_upto_if 109 with (go_at_fn (ρ.f 33); (with_reducible refine hc22.out.mono ?_); rintro e w7 ⟨rfl, hw7⟩; have HC7 := Lib.hid (HC6.out.call hw7); clear hw7)
                      clear x0 x1
                      have x0 := HC7.out.b0
                      have x1 := HC7.out.b1
                      have hd4 : d4.size = C.n := HC7.out.size
                      by_cases h4 : mid - a' < b' - mid
                      · have h4z : (mid : Int) - (a' : Int) < (b' : Int) - (mid : Int) := by omega
                        have hih := Lib.hid (ih a' mid (rd C.lt dk a' b' lim wb wp).lim d4 w7 (by omega) HC7.out.base (by omega) (by omega) (Nat.lt_of_le_of_lt (Nat.le_trans rd_lim_le hlim) hlimit) R4.out)
                        obtain ⟨pL, sL⟩ := pdq_sorts C.lt hO d4 a' mid (rd C.lt dk a' b' lim wb wp).lim true true (by omega) (by omega) R4.out
                        go_wp2_with (go_at_fn (ρ.f 14); (with_reducible refine hih.out.mono ?_); rintro e w8 ⟨rfl, hw8⟩; have HC8 := Lib.hid (HC7.out.call hw8); clear hw8)
                        go_roundg (b' - (mid + 1))
                        case measure => omega
                        case rel =>
                          refine ⟨mid + 1, b', (rd C.lt dk a' b' lim wb wp).lim, decide (mid - a' ≥ (b' - a') / 8), ap, pdq C.lt d4 a' mid (rd C.lt dk a' b' lim wb wp).lim true true, by simp, rfl, rfl, ?_, rfl, by omega, hb', Nat.le_refl _, by omega, Nat.le_trans rd_lim_le hlim, Lib.hid (R6.out _ pL sL).1, HC8, Lib.hid ?_⟩
                          · exact congrArg Value.bool (eighth (by omega) (by omega))
                          · rw [← HA.out, pdq_left h12 hl0 hp2 h87 (by rw [HX.out]; exact ⟨r1, r2⟩) (by rw [HX.out]; exact h4), HX.out]
                      · have h4z : ¬ ((mid : Int) - (a' : Int) < (b' : Int) - (mid : Int)) := by omega
                        have hih := ih (mid + 1) b' (rd C.lt dk a' b' lim wb wp).lim d4 w7 (by omega) HC7.out.base (by omega) hb' (Nat.lt_of_le_of_lt (Nat.le_trans rd_lim_le hlim) hlimit) R5.out
                        rw [show ((mid + 1 : Nat) : Int) = (mid : Int) + 1 by omega] at hih
                        have hih := Lib.hid hih
                        obtain ⟨pL, sL⟩ := pdq_sorts C.lt hO d4 (mid + 1) b' (rd C.lt dk a' b' lim wb wp).lim true true (by omega) (by omega) R5.out
                        go_wp2_with (go_at_fn (ρ.f 14); (with_reducible refine hih.out.mono ?_); rintro e w8 ⟨rfl, hw8⟩; have HC8 := Lib.hid (HC7.out.call hw8); clear hw8)
                        go_roundg (mid - a')
                        case measure => omega
                        case rel =>
                          refine ⟨a', mid, (rd C.lt dk a' b' lim wb wp).lim, decide (b' - mid ≥ (b' - a') / 8), ap, pdq C.lt d4 (mid + 1) b' (rd C.lt dk a' b' lim wb wp).lim true true, rfl, rfl, rfl, ?_, rfl, by omega, by omega, Nat.le_refl _, by omega, Nat.le_trans rd_lim_le hlim, Lib.hid (R7.out _ pL sL).1, HC8, Lib.hid ?_⟩
                          · exact congrArg Value.bool (eighth (by omega) (by omega))
                          · rw [← HA.out, pdq_right h12 hl0 hp2 h87 (by rw [HX.out]; exact ⟨r1, r2⟩) (by rw [HX.out]; exact h4), HX.out]
                    · have h87' := h87
                      simp only [Bool.and_eq_true, decide_eq_true_eq, Bool.not_eq_true'] at h87'
                      obtain ⟨mid, d4, hx⟩ : ∃ mid d4, partitionEqual C.lt (rd C.lt dk a' b' lim wb wp).pi.1 a' b' (rd C.lt dk a' b' lim wb wp).pivot = (mid, d4) := ⟨_, _, rfl⟩
                      obtain ⟨r1, r2, r3, r4, _⟩ := round_eq hO (partitionEqual_holds C.lt) h87'.1 hpv.1 hpv.2 (show b' ≤ (rd C.lt dk a' b' lim wb wp).pi.1.size by omega) HB3.out h87'.2 hx
                      have hc21 := partEq_x (P := P) (ρ := ρ) { L with } C a' b' (rd C.lt dk a' b' lim wb wp).pivot (rd C.lt dk a' b' lim wb wp).pi.1 wc6 HC6.out.base hpv.1 hpv.2 hb'
                      rw [hx] at hc21
                      have hc21 := Lib.hid hc21
                      have HX := Lib.hid hx
                      have R4 := Lib.hid r4
                      have HH := Lib.hid h87
                      clear hx r4 h87'
                      go_wp2_with (go_at_fn (ρ.f 32); (with_reducible refine hc21.out.mono ?_); rintro e w7 ⟨rfl, hw7⟩; have HC7 := Lib.hid (HC6.out.call hw7); clear hw7)
                      go_roundg (b' - mid)
                      case measure => omega
                      case rel =>
                        exact ⟨mid, b', (rd C.lt dk a' b' lim wb wp).lim, wb, wp, d4, rfl, rfl, rfl, rfl, rfl, r2, hb', Nat.le_refl _, by omega, Nat.le_trans rd_lim_le hlim, R4, HC7, Lib.hid (by rw [← HA.out, pdq_eq h12 hl0 hp2 HH.out (by rw [HX.out]; exact ⟨r1, r2⟩), HX.out])⟩
end Go.Proofs.Ytnhpjmjinchamaa

/- sort.Slice with a closure that may lay blocks, at structs. -/
namespace Go.Proofs.Ytnhpjmjinchamaa
open Go Go.Shelf Go.RowKit Go.Lib
open Go.Sort (SWO PermIn SortedIn HoldsK putRowK pdq pdq_sorts)
variable {P : Program} {ρ : Ren} {α : Type} [Inhabited α]

/-- what the closure has to tell, in every world that the sort passes through -/
def LessX (P : Program) (g : Nat) (lb : Array Value) (enc : α → List Value) (k : Nat) (lt : α → α → Bool) (blk off n : Nat) (w0 : World) : Prop :=
  ∀ (d : Array α) (w : World), d.size = n → Only [blk] w0 w → w.heap[blk]? = (putRowK enc k w0 blk off d).heap[blk]? → HoldsK enc k w blk off d → ∀ i j : Nat, i < n → j < n →
    Calls P g (#[.int .i64 i, .int .i64 j] ++ lb) w fun e w' => e = .returned (.bool (lt d[i]! d[j]!)) ∧ Below w.heap.size w w'

theorem sort_slice_x (L : LaysGg.n6 P ρ) (t e : TypeId) (i ie : TypeInfo) (hi : P.info? t = some i) (hd : i.desc = .slice e) (hpk : P.packed t = false) (hie : P.info? e = some ie) (ke : Nat) (hke : ∀ w, (Extern.Rtype.kind e).run P w = .ok ke w)
    (enc : α → List Value) (k : Nat) (hk : ∀ x, (enc x).length = k) (hs1 : ie.size = k) (hagg : ∀ w, (isAgg e).run P w = .ok true w) (h1 : ∀ x, ∀ v ∈ enc x, v.oneCell' = true) (lt : α → α → Bool) (hO : SWO lt) (g : Nat) (lb : Array Value)
    (eg : ∀ args w, (callFunc g args).run P w = .ok (.enter g args) w) (blk off c : Nat) (d : Array α) (h2 : 2 ≤ d.size) (hsz : d.size < 4611686018427387904)
    (f : Nat) (hf : P.funcs.findIdx? (·.name == "internal/reflectlite" ++ ".Swapper$" ++ toString (swapperK d.size ie ke)) = some f)
    (gS : Bool) (hx : ∀ args W, (callFunc f args).run P W = ((Extern.ReflectliteSwapper.swap gS args).run P W).andThen fun v w' => .ok (.value v) w')
    (w : World) (hless : LessX P g lb enc k lt blk off d.size w) (hH : HoldsK enc k w blk off d) (hblk : blk < w.heap.size) :
    Calls P (ρ.f 6) #[.iface t (.slice (some ⟨blk, off, none⟩) d.size c), .func (.func g) #[] lb] w fun e w' =>
      e = .returned (.tuple #[]) ∧ ∃ d', PermIn 0 d.size d d' ∧ SortedIn lt 0 d.size d' ∧ Only [blk] w w' ∧ w'.heap[blk]? = (putRowK enc k w blk off d').heap[blk]? ∧ HoldsK enc k w' blk off d' := by
  obtain ⟨C, c1, c2, c3, c4, c5, c6, c7, c8, c9, c10⟩ : ∃ C : SC P α, C.enc = enc ∧ C.k = k ∧ C.lt = lt ∧ C.g = g ∧ C.lb = lb ∧ C.sf = f ∧ C.sb = #[.slice (some ⟨blk, off, none⟩) d.size c, typeHandle P e] ∧ C.blk = blk ∧ C.off = off ∧ C.n = d.size :=
    ⟨{ enc := enc, k := k, hk := hk, lt := lt, g := g, lb := lb, sf := f, sb := #[.slice (some ⟨blk, off, none⟩) d.size c, typeHandle P e], blk := blk, off := off, n := d.size, eg := eg, swap := swapSwapsK_of_literal gS f hx e ie hie enc k hk hs1 hagg h1 blk off d.size c, hn := hsz }, rfl, rfl, rfl, rfl, rfl, rfl, rfl, rfl, rfl, rfl⟩
  have hA : At0 C w d := by
    refine ⟨c10.symm, by rw [c8]; exact hblk, by rw [c1, c2, c8, c9]; exact hH, ?_⟩
    intro d' w' hr i j hi hj
    rw [c4, c5, c3]
    have hr2 := hr.at_
    have hr3 := hr.only
    have hh : HoldsK C.enc C.k w' C.blk C.off d' := HoldsK.same (Go.Sort.holdsK_putRowK C.enc C.k w C.blk C.off d d' (by rw [c1, c2, c8, c9]; exact hH) (by rw [hr.size, c10])) hr2
    rw [c1, c2, c8, c9] at hr2 hh
    rw [c8] at hr3
    rw [c10] at hi hj
    exact hless d' w' (hr.size.trans c10) hr3 hr2 hh i j hi hj
  have hb1 := below_alloc w (.cells #[.slice (some ⟨blk, off, none⟩) d.size c] t)
  have hb2 : Below w.heap.size w (sliceWorld P ρ t (some ⟨blk, off, none⟩) d.size c w) := hb1.trans ((below_alloc (w.alloc (.cells #[.slice (some ⟨blk, off, none⟩) d.size c] t)) (.cells #[.pointer (some ⟨P.globals.size, t, none⟩), .pointer (some ⟨w.heap.size, 0, none⟩), .int .u64 151] (ρ.t 35))).mono hb1.size)
  refine Any.sort_Slice_of_pdq L t e i ie hi hd hpk hie ke hke _ d.size c hsz f hf (.func g) #[] lb w (fun w' => ∃ d', PermIn 0 d.size d d' ∧ SortedIn lt 0 d.size d' ∧ Only [blk] w w' ∧ w'.heap[blk]? = (putRowK enc k w blk off d').heap[blk]? ∧ HoldsK enc k w' blk off d') ?_
  have hB : sliceBound P e ie ke (some ⟨blk, off, none⟩) d.size c = #[.slice (some ⟨blk, off, none⟩) d.size c, typeHandle P e] := by
    unfold sliceBound; rw [if_neg (swapperK_gt _ _ _ h2)]
  rw [hB]
  have hlim : Lib.bitLen d.size < 4611686018427387904 := Nat.lt_of_le_of_lt (Lib.bitLen_le d.size 62 (by omega) (by omega)) (by omega)
  have hp := pdq_x (P := P) (ρ := ρ) { L with } C (by rw [c3]; exact hO) (d.size + 1) 0 d.size (Lib.bitLen d.size) d _ (by omega) (hA.grow hb2) (Nat.zero_le _) (by rw [c10]; exact Nat.le_refl _) hlim (Or.inl rfl)
  rw [c4, c5, c6, c7, c3] at hp
  rw [show ((0 : Nat) : Int) = 0 from rfl] at hp
  refine hp.mono ?_
  rintro e w' ⟨he, hs⟩
  have hq := pdq_sorts lt hO d 0 d.size (Lib.bitLen d.size) true true (Nat.zero_le _) (Nat.le_refl _) (Or.inl rfl)
  have hr := ((Rw.start hA.size hA.holds).grow hA.lt hb2).trans hs.rw_
  have hr2 := hr.at_
  have hr3 := hr.only
  have hh := hs.at0.holds
  rw [c1, c2, c8, c9] at hr2 hh
  rw [c8] at hr3
  exact ⟨he, _, hq.1, hq.2, hr3, hr2, hh⟩
end Go.Proofs.Ytnhpjmjinchamaa
