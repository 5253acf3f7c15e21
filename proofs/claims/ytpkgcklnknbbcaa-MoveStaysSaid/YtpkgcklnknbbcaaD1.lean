/- The walk of MoveStays. -/
import Derived.Test.YtpkgcklnknbbcaaO1
import Derived.Deep.DeepCutAuto
set_option linter.unusedVariables false
set_option linter.unusedSimpArgs false
set_option linter.unnecessarySimpa false
namespace Go.Proofs.Ytpkgcklnknbbcaa
open Go.RowKit

theorem stays_step {P S V n t : Int} {D : Bool} (h : validB P S V = true) (n0 : 0 ≤ n) (n8 : n < 8) (t0 : 0 ≤ t) (ts : t < S) :
    applyF P S V D (1 + n) t = (zeroS, 110) ∨ ∃ p' v' d', applyF P S V D (1 + n) t = ((p', S, v', d'), 0) ∧ validB p' S v' = true ∧
      ((n = 5 ∧ P = 2 ∧ p' = 3 ∧ v' = allOf S) ∨ (n = 6 ∧ P = 3 ∧ p' = 4) ∨ (n ≠ 5 ∧ n ≠ 6 ∧ P = 3 ∧ p' = 3) ∨ (n ≠ 5 ∧ n ≠ 6 ∧ P ≠ 3 ∧ P ≠ 4 ∧ p' ≠ 3 ∧ p' ≠ 4)) := by
  have hp := valid_phase h
  obtain ⟨b1, b4, b2, b3⟩ := valid_bounds h
  have mk : ∀ p' v' d', applyF P S V D (1 + n) t = ((p', S, v', d'), 0) → ((n = 5 ∧ P = 2 ∧ p' = 3 ∧ v' = allOf S) ∨ (n = 6 ∧ P = 3 ∧ p' = 4) ∨ (n ≠ 5 ∧ n ≠ 6 ∧ P = 3 ∧ p' = 3) ∨ (n ≠ 5 ∧ n ≠ 6 ∧ P ≠ 3 ∧ P ≠ 4 ∧ p' ≠ 3 ∧ p' ≠ 4)) → applyF P S V D (1 + n) t = (zeroS, 110) ∨ ∃ p' v' d', applyF P S V D (1 + n) t = ((p', S, v', d'), 0) ∧ validB p' S v' = true ∧
      ((n = 5 ∧ P = 2 ∧ p' = 3 ∧ v' = allOf S) ∨ (n = 6 ∧ P = 3 ∧ p' = 4) ∨ (n ≠ 5 ∧ n ≠ 6 ∧ P = 3 ∧ p' = 3) ∨ (n ≠ 5 ∧ n ≠ 6 ∧ P ≠ 3 ∧ P ≠ 4 ∧ p' ≠ 3 ∧ p' ≠ 4)) :=
    fun p' v' d' h1 h2 => .inr ⟨p', v', d', h1, applyF_valid h1, h2⟩
  have e0 : applyF P S V D (1 + n) t = (if P = 4 ∨ P = 5 then (zeroS, 110)
    else if 1 + n = 3 then ((P, S, V, false), 0)
    else if 1 + n = 4 then ((P, S, V, true), 0)
    else if 1 + n = 6 then (if P = 2 then ((3, S, V, D), 0) else (zeroS, 110))
    else if 1 + n = 7 then (if P = 3 then ((4, S, V, D), 0) else (zeroS, 110))
    else if P = 3 then (zeroS, 110)
    else if 1 + n = 1 then ((if orBit V t = allOf S then 2 else 1, S, orBit V t, D), 0)
    else if 1 + n = 2 then ((1, S, clearBit V t, D), 0)
    else ((5, S, V, D), 0)) := by
    unfold applyF
    rw [if_neg (by rw [h]; simp; omega), if_neg (by omega)]
  by_cases g1 : P = 4 ∨ P = 5
  · left; rw [e0, if_pos g1]
  rw [if_neg g1] at e0
  by_cases g2 : 1 + n = 3
  · rw [if_pos g2] at e0; exact mk _ _ _ e0 (by omega)
  rw [if_neg g2] at e0
  by_cases g3 : 1 + n = 4
  · rw [if_pos g3] at e0; exact mk _ _ _ e0 (by omega)
  rw [if_neg g3] at e0
  by_cases g4 : 1 + n = 6
  · rw [if_pos g4] at e0
    by_cases g5 : P = 2
    · rw [if_pos g5] at e0; exact mk _ _ _ e0 (by omega)
    · left; rw [e0, if_neg g5]
  rw [if_neg g4] at e0
  by_cases g6 : 1 + n = 7
  · rw [if_pos g6] at e0
    by_cases g5 : P = 3
    · rw [if_pos g5] at e0; exact mk _ _ _ e0 (by omega)
    · left; rw [e0, if_neg g5]
  rw [if_neg g6] at e0
  by_cases g7 : P = 3
  · left; rw [e0, if_pos g7]
  rw [if_neg g7] at e0
  by_cases g8 : 1 + n = 1
  · rw [if_pos g8] at e0
    exact mk _ _ _ e0 (.inr (.inr (.inr ⟨by omega, by omega, g7, by omega, by split <;> omega, by split <;> omega⟩)))
  rw [if_neg g8] at e0
  by_cases g9 : 1 + n = 2
  · rw [if_pos g9] at e0
    exact mk _ _ _ e0 (.inr (.inr (.inr ⟨by omega, by omega, g7, by omega, by omega, by omega⟩)))
  rw [if_neg g9] at e0
  exact mk _ _ _ e0 (.inr (.inr (.inr ⟨by omega, by omega, g7, by omega, by omega, by omega⟩)))



set_option maxRecDepth 100000 in
set_option maxHeartbeats 4000000 in
theorem stays_any (p s v : Int) (d : Bool) (vl : Value) (es : List Ev) (w : World) (he : Evs w vl es) (hE : ∀ e ∈ es, In64 e.1 ∧ In64 e.2) (hp : In64 p) (hs : In64 s) (hv : In64 v) :
    Calls Try.prog 6 #[.agg #[.int .i64 p, .int .i64 s, .int .i64 v, .bool d], vl] w (RetB true w) := by
  obtain ⟨a, cap, rfl, hl, hi⟩ := he
  obtain ⟨p', s', v', hn, hk⟩ := near_valid p s v d
  have HN := Lib.hid hn
  have HK := Lib.hid hk
  have HI := Lib.hid hi
  have HE := Lib.hid hE
  have HP := Lib.hid (And.intro hp (And.intro hs hv))
  obtain ⟨n, hln⟩ : ∃ n, n = es.length := ⟨_, rfl⟩
  have HL := Lib.hid hln
  rw [← hln] at hl ⊢
  clear hn hk hi hp hs hv hE hln
  by_cases h60 : 60 < n
  · have hd1 : decide ((60 : Int) < (n : Int)) = true := by simp; omega
    go_enter Try.func6, Try.ntmps6
    go_wp2_with (go_at_call 13; refine (awake_any _).mono ?_; rintro e w1 ⟨rfl, hb1⟩; have HB := Lib.hid ((below_of_allocs _).trans (hb1.mono (by simp))))
    go_ret
    exact ⟨rfl, HB.out⟩
  have hd1 : decide ((60 : Int) < (n : Int)) = false := by simp; omega
  obtain ⟨c, hc⟩ : ∃ c, c = (p' == 3 || p' == 4) := ⟨_, rfl⟩
  have hcc : (c = true ∧ (p' == 3) = true) ∨ (c = true ∧ (p' == 3) = false ∧ (p' == 4) = true) ∨ (c = false ∧ (p' == 3) = false ∧ (p' == 4) = false) := by
    rw [hc]; cases p' == 3 <;> cases p' == 4 <;> simp
  have HC := Lib.hid hc
  clear hc
  go_enter Try.func6, Try.ntmps6
  go_upto_region 4 with (go_at_call 15; refine (near_as HN.out _ HP.out.1 HP.out.2.1 HP.out.2.2).mono ?_; rintro e w1 ⟨rfl, hb1⟩; have HM1 := Lib.hid ((Mm.box _ _).call hb1); (obtain ⟨m00, m01, m02, m03, m00f, m01f, m02f, m03f, m0l⟩ := (HM1).out.lay4 0 rfl); clear hb1)
  have HM2 := Lib.hid (show Mm w _ [(w.heap.size, #[.int .i64 p', .int .i64 s', .int .i64 v', .bool d])] from (HM1.out.put4 0 rfl _ _ _ _))
  go_cut [5] (fun s5 wx => s5 = .bool c ∧ Mm w wx [(w.heap.size, #[.int .i64 p', .int .i64 s', .int .i64 v', .bool d])])
  case first =>
    rcases hcc with ⟨rfl, t3⟩ | ⟨rfl, t3, t4⟩ | ⟨rfl, t3, t4⟩
    all_goals
      go_wp2_with fail
      go_meet
      exact ⟨rfl, HM2.out⟩
  case rest =>
    clear HM2 HM1 hcc
    clear m00 m01 m02 m03 m00f m01f m02f m03f m0l
    obtain ⟨rfl, hM2⟩ := hcut
    have HM2 := Lib.hid hM2
    clear hM2
    (go_wp2_with fail
     go_loopw [6, 5] (fun i cv wr => ∃ (k : Nat) (P S V : Int) (D : Bool) (c : Bool), k ≤ n ∧ i = .int .i64 k ∧ cv = .bool c ∧ 1 ≤ S ∧ S ≤ 4 ∧ Mm w wr [(w.heap.size, #[.int .i64 P, .int .i64 S, .int .i64 V, .bool D])] ∧ Hid (validB P S V = true) ∧ Hid (c = (P == 3 || P == 4))) (fun i _ _ => n - (intOf i).toNat)
     case atStart => exact ⟨0, p', s', v', d, _, by omega, rfl, rfl, (valid_bounds HK.out).1, (valid_bounds HK.out).2.1, HM2.out, HK, HC⟩
     case round =>
       clear HM2 HK HC
       rename World => wr
       obtain ⟨k, P, S, V, D, c, hkn, rfl, rfl, hS1, hS4, hM, HV, HC⟩ := hrel
       have HM := Lib.hid hM
       clear hM
       by_cases hlt : k < n
       · obtain ⟨b, off, rfl, hbs, hek, het⟩ := HI.out k (by rw [← HL.out]; exact hlt)
         have h64 := Lib.hid (HE.out (es.getD k (0, 0)) (by have := HL.out; simp [List.getD, show k < es.length by omega]))
         generalize es.getD k (0, 0) = E at *
         obtain ⟨ek, et⟩ := E
         have HB64 := Lib.hid (show ((-9223372036854775808 ≤ ek ∧ ek ≤ 9223372036854775807) ∧ (-9223372036854775808 ≤ et ∧ et ≤ 9223372036854775807)) from h64.out)
         have HEK := Lib.hid hek
         have HET := Lib.hid het
         obtain ⟨n8, hn8⟩ : ∃ n8, n8 = ek % 8 := ⟨_, rfl⟩
         obtain ⟨t, ht⟩ : ∃ t, t = et % S := ⟨_, rfl⟩
         have hst := stays_step (D := D) (n := n8) (t := t) HV.out (by omega) (by omega) (by rw [ht]; exact Int.emod_nonneg _ (by omega)) (by rw [ht]; exact Int.emod_lt_of_pos _ (by omega))
         have hn0 : 0 ≤ n8 := by omega
         have hn9 : n8 < 8 := by omega
         have HN8 := Lib.hid hn8
         have HT := Lib.hid ht
         have hw64 : IntKind.i64.wrap (1 + n8) = 1 + n8 := IntWalk.i64_in _ (by omega)
         have HST := Lib.hid hst
         clear hek het hn8 ht hst
         go_wp2_with fail
         refine wp_region_late (Up w wr [(w.heap.size, #[.int .i64 P, .int .i64 S, .int .i64 V, .bool D])]) 16 (by kernel_rfl) (by kernel_rfl) Up.stable (Up.start HM.out) ?_
         simp only [List.take_succ_cons, List.take_zero, List.drop_succ_cons, List.drop_zero]
         (repeat first
                   | (apply bRow_plain
                      · exact rfl
                      · intro wg hg
                        ((have hgm : Mm w wg _ := hg.1; (obtain ⟨x00, x01, x02, x03, x00f, x01f, x02f, x03f, x0l⟩ := hgm.lay4 0 rfl); have he0 := (hgm.below.cell (p := ⟨b, off + k * 2, none⟩) hbs).trans HEK.out; have he1 := (hgm.below.cell (p := ⟨b, off + k * 2 + 1, none⟩) hbs).trans HET.out))
                        go_simp
                        first
                          | exact rfl
                          | exact Below.refl _ _
                          | exact ⟨Below.refl _ _, rfl⟩
                          | ((first | ((with_reducible refine (within_any ek 8 _ (by decide) (by decide) HB64.out.1.1 HB64.out.1.2).mono ?_); rintro e w1 ⟨rfl, rfl⟩; exact ⟨by rw [← HN8.out], Below.refl _ _⟩) | ((with_reducible refine (within_any et S _ hS1 (by omega) HB64.out.2.1 HB64.out.2.2).mono ?_); rintro e w1 ⟨rfl, rfl⟩; exact ⟨by rw [← HT.out], Below.refl _ _⟩)))
                      intro K hK
                      go_simp
                      refine hK _ ?_
                      clear hK K)
                   | (apply bRow_step
                      · go_simp; done
                      · intro wg hg
                        ((have hgm : Mm w wg _ := hg.1; (obtain ⟨x00, x01, x02, x03, x00f, x01f, x02f, x03f, x0l⟩ := hgm.lay4 0 rfl); have he0 := (hgm.below.cell (p := ⟨b, off + k * 2, none⟩) hbs).trans HEK.out; have he1 := (hgm.below.cell (p := ⟨b, off + k * 2 + 1, none⟩) hbs).trans HET.out))
                        go_simp
                        first
                          | exact rfl
                          | exact Below.refl _ _
                          | exact ⟨Below.refl _ _, rfl⟩
                          | ((first | ((with_reducible refine (within_any ek 8 _ (by decide) (by decide) HB64.out.1.1 HB64.out.1.2).mono ?_); rintro e w1 ⟨rfl, rfl⟩; exact ⟨by rw [← HN8.out], Below.refl _ _⟩) | ((with_reducible refine (within_any et S _ hS1 (by omega) HB64.out.2.1 HB64.out.2.2).mono ?_); rintro e w1 ⟨rfl, rfl⟩; exact ⟨by rw [← HT.out], Below.refl _ _⟩)))
                      intro K hK
                      go_simp
                      refine hK _ ?_
                      clear hK K)
                   | (apply bRow_not
                      · go_simp; done
                      intro K hK
                      go_simp
                      refine hK _ ?_
                      clear hK K))
         refine bRow_nil ?_
         refine sRow_alloc wr.heap.size _ _ Up.stable (fun _ h => h.2) (fun _ h => h) rfl (by intro w0; go_simp; first | rfl | exact ⟨rfl, rfl⟩) ?_
         intro b0 K hK
         go_simp
         refine hK _ ?_
         clear hK K
         refine sRow_store [.int .i64 (1 + n8), .int .i64 t] Up.stable (Up.set HM.out) rfl rfl (by intro w0 h0; obtain ⟨x0, x1, x0f, x1f, xl⟩ := (h0).lay2; go_simp; rfl) ?_
         intro K hK
         go_simp
         refine hK _ ?_
         clear hK K
         refine sRow_nil ?_
         intro w1 hW1
         have HM1 := Lib.hid (show Mm w w1 [(b0, #[.int .i64 (1 + n8), .int .i64 t]), (w.heap.size, #[.int .i64 P, .int .i64 S, .int .i64 V, .bool D])] from hW1.mm HM.out)
         clear hW1
         clear hw64
         (obtain ⟨m00, m01, m00f, m01f, m0l⟩ := (HM1).out.lay2 0 rfl; obtain ⟨m10, m11, m12, m13, m10f, m11f, m12f, m13f, m1l⟩ := (HM1).out.lay4 1 rfl)
         rcases HST.out with hA | ⟨q, x, e2, hA, hV2, hcase⟩
         · have HA := Lib.hid (show applyF P S V D (1 + n8) t = ((0, 0, 0, false), 110) from hA)
           clear hA
           go_wp2_with (go_at_call 16; refine (apply_as HA.out _ (valid_i64 HV.out).1 (valid_i64 HV.out).2).mono ?_; rintro e w2 ⟨rfl, hb1⟩; have HM3 := Lib.hid (HM1.out.call hb1); clear m00 m01 m00f m01f m0l m10 m11 m12 m13 m10f m11f m12f m13f m1l; (obtain ⟨m00, m01, m00f, m01f, m0l⟩ := (HM3).out.lay2 0 rfl; obtain ⟨m10, m11, m12, m13, m10f, m11f, m12f, m13f, m1l⟩ := (HM3).out.lay4 1 rfl); clear hb1)
           go_roundw
           case rel => exact ⟨k + 1, P, S, V, D, c, by omega, by go_num, rfl, hS1, hS4, (HM3.out.alloc _).drop, HV, HC⟩
           case measure => simp [intOf]; omega
         · have HA := Lib.hid hA
           have HV2 := Lib.hid hV2
           clear hA hV2
           rcases hcase with ⟨rfl, rfl, rfl, rfl⟩ | ⟨rfl, rfl, rfl⟩ | ⟨g5, g6, rfl, rfl⟩ | ⟨g5, g6, g3, g4, f3, f4⟩
           · obtain rfl : c = false := HC.out
             (go_wp2_with (go_at_call 16; refine (apply_as HA.out _ (valid_i64 HV.out).1 (valid_i64 HV.out).2).mono ?_; rintro e w2 ⟨rfl, hb1⟩; have HM3 := Lib.hid (HM1.out.call hb1); clear m00 m01 m00f m01f m0l m10 m11 m12 m13 m10f m11f m12f m13f m1l; clear hb1)
              refine wp_region_grow (fun w' => Mm w w' [(w2.heap.size, #[.int .i64 3, .int .i64 S, .int .i64 (allOf S), .bool e2]), (b0, #[_, .int .i64 t]), (w.heap.size, #[_, .int .i64 S, .int .i64 V, .bool D])]) (by kernel_rfl) (by kernel_rfl) (HM3.out.push w2.heap.size _ _ rfl).drew ?_
              (repeat first
                        | (apply gRow_plain
                           · exact rfl
                           · intro wg hg
                             ((have hgm : Mm _ wg _ := hg; (obtain ⟨x00, x01, x02, x03, x00f, x01f, x02f, x03f, x0l⟩ := hgm.lay4 0 rfl; obtain ⟨x10, x11, x10f, x11f, x1l⟩ := hgm.lay2 1 rfl; obtain ⟨x20, x21, x22, x23, x20f, x21f, x22f, x23f, x2l⟩ := hgm.lay4 2 rfl)))
                             go_simp
                             first
                               | exact rfl
                               | exact hg
                               | exact ⟨hg, rfl⟩
                               | ((first | ((with_reducible refine (valid_true HV2.out _ _ (valid_i64 HV2.out).1 (valid_i64 HV2.out).2).mono ?_); rintro e w1 ⟨rfl, hb1⟩; exact ⟨rfl, Mm.call hg hb1⟩) | ((with_reducible refine (refAll_any _ _ hS1 hS4).mono ?_); rintro e w1 ⟨rfl, rfl⟩; exact ⟨rfl, hg⟩)))
                           intro K hK
                           go_simp
                           refine hK _ ?_
                           clear hK K)
                        | (apply gRow_step
                           · go_simp; done
                           · intro wg hg
                             ((have hgm : Mm _ wg _ := hg; (obtain ⟨x00, x01, x02, x03, x00f, x01f, x02f, x03f, x0l⟩ := hgm.lay4 0 rfl; obtain ⟨x10, x11, x10f, x11f, x1l⟩ := hgm.lay2 1 rfl; obtain ⟨x20, x21, x22, x23, x20f, x21f, x22f, x23f, x2l⟩ := hgm.lay4 2 rfl)))
                             go_simp
                             first
                               | exact rfl
                               | exact hg
                               | exact ⟨hg, rfl⟩
                               | ((first | ((with_reducible refine (valid_true HV2.out _ _ (valid_i64 HV2.out).1 (valid_i64 HV2.out).2).mono ?_); rintro e w1 ⟨rfl, hb1⟩; exact ⟨rfl, Mm.call hg hb1⟩) | ((with_reducible refine (refAll_any _ _ hS1 hS4).mono ?_); rintro e w1 ⟨rfl, rfl⟩; exact ⟨rfl, hg⟩)))
                           intro K hK
                           go_simp
                           refine hK _ ?_
                           clear hK K)
                        | (apply gRow_not
                           · go_simp; done
                           intro K hK
                           go_simp
                           refine hK _ ?_
                           clear hK K))
              refine gRow_nil ?_
              intro w4 hM5
              have HM5 := Lib.hid hM5
              clear hM5
              (obtain ⟨m00, m01, m02, m03, m00f, m01f, m02f, m03f, m0l⟩ := (HM5).out.lay4 0 rfl; obtain ⟨m10, m11, m10f, m11f, m1l⟩ := (HM5).out.lay2 1 rfl; obtain ⟨m20, m21, m22, m23, m20f, m21f, m22f, m23f, m2l⟩ := (HM5).out.lay4 2 rfl)
              go_wp2_with fail
              go_roundw
              case rel => exact ⟨k + 1, 3, S, (allOf S), e2, _, by omega, by go_num, rfl, hS1, hS4, ((HM5.out.put4 2 rfl _ _ _ _).drop).drop, HV2, Lib.hid (by first | rfl | simp_all)⟩
              case measure => simp [intOf]; omega)
           · obtain rfl : c = true := HC.out
             (go_wp2_with (go_at_call 16; refine (apply_as HA.out _ (valid_i64 HV.out).1 (valid_i64 HV.out).2).mono ?_; rintro e w2 ⟨rfl, hb1⟩; have HM3 := Lib.hid (HM1.out.call hb1); clear m00 m01 m00f m01f m0l m10 m11 m12 m13 m10f m11f m12f m13f m1l; clear hb1)
              refine wp_region_grow (fun w' => Mm w w' [(w2.heap.size, #[.int .i64 4, .int .i64 S, .int .i64 x, .bool e2]), (b0, #[_, .int .i64 t]), (w.heap.size, #[_, .int .i64 S, .int .i64 V, .bool D])]) (by kernel_rfl) (by kernel_rfl) (HM3.out.push w2.heap.size _ _ rfl).drew ?_
              (repeat first
                        | (apply gRow_plain
                           · exact rfl
                           · intro wg hg
                             ((have hgm : Mm _ wg _ := hg; (obtain ⟨x00, x01, x02, x03, x00f, x01f, x02f, x03f, x0l⟩ := hgm.lay4 0 rfl; obtain ⟨x10, x11, x10f, x11f, x1l⟩ := hgm.lay2 1 rfl; obtain ⟨x20, x21, x22, x23, x20f, x21f, x22f, x23f, x2l⟩ := hgm.lay4 2 rfl)))
                             go_simp
                             first
                               | exact rfl
                               | exact hg
                               | exact ⟨hg, rfl⟩
                               | ((first | ((with_reducible refine (valid_true HV2.out _ _ (valid_i64 HV2.out).1 (valid_i64 HV2.out).2).mono ?_); rintro e w1 ⟨rfl, hb1⟩; exact ⟨rfl, Mm.call hg hb1⟩) | ((with_reducible refine (refAll_any _ _ hS1 hS4).mono ?_); rintro e w1 ⟨rfl, rfl⟩; exact ⟨rfl, hg⟩)))
                           intro K hK
                           go_simp
                           refine hK _ ?_
                           clear hK K)
                        | (apply gRow_step
                           · go_simp; done
                           · intro wg hg
                             ((have hgm : Mm _ wg _ := hg; (obtain ⟨x00, x01, x02, x03, x00f, x01f, x02f, x03f, x0l⟩ := hgm.lay4 0 rfl; obtain ⟨x10, x11, x10f, x11f, x1l⟩ := hgm.lay2 1 rfl; obtain ⟨x20, x21, x22, x23, x20f, x21f, x22f, x23f, x2l⟩ := hgm.lay4 2 rfl)))
                             go_simp
                             first
                               | exact rfl
                               | exact hg
                               | exact ⟨hg, rfl⟩
                               | ((first | ((with_reducible refine (valid_true HV2.out _ _ (valid_i64 HV2.out).1 (valid_i64 HV2.out).2).mono ?_); rintro e w1 ⟨rfl, hb1⟩; exact ⟨rfl, Mm.call hg hb1⟩) | ((with_reducible refine (refAll_any _ _ hS1 hS4).mono ?_); rintro e w1 ⟨rfl, rfl⟩; exact ⟨rfl, hg⟩)))
                           intro K hK
                           go_simp
                           refine hK _ ?_
                           clear hK K)
                        | (apply gRow_not
                           · go_simp; done
                           intro K hK
                           go_simp
                           refine hK _ ?_
                           clear hK K))
              refine gRow_nil ?_
              intro w4 hM5
              have HM5 := Lib.hid hM5
              clear hM5
              (obtain ⟨m00, m01, m02, m03, m00f, m01f, m02f, m03f, m0l⟩ := (HM5).out.lay4 0 rfl; obtain ⟨m10, m11, m10f, m11f, m1l⟩ := (HM5).out.lay2 1 rfl; obtain ⟨m20, m21, m22, m23, m20f, m21f, m22f, m23f, m2l⟩ := (HM5).out.lay4 2 rfl)
              go_wp2_with fail
              go_roundw
              case rel => exact ⟨k + 1, 4, S, x, e2, _, by omega, by go_num, rfl, hS1, hS4, ((HM5.out.put4 2 rfl _ _ _ _).drop).drop, HV2, Lib.hid (by first | rfl | simp_all)⟩
              case measure => simp [intOf]; omega)
           · obtain rfl : c = true := HC.out
             have i6 : (1 + n8 == 6) = false := by simp; omega
             have i7 : (1 + n8 == 7) = false := by simp; omega
             (go_wp2_with (go_at_call 16; refine (apply_as HA.out _ (valid_i64 HV.out).1 (valid_i64 HV.out).2).mono ?_; rintro e w2 ⟨rfl, hb1⟩; have HM3 := Lib.hid (HM1.out.call hb1); clear m00 m01 m00f m01f m0l m10 m11 m12 m13 m10f m11f m12f m13f m1l; clear hb1)
              refine wp_region_grow (fun w' => Mm w w' [(w2.heap.size, #[.int .i64 3, .int .i64 S, .int .i64 x, .bool e2]), (b0, #[_, .int .i64 t]), (w.heap.size, #[_, .int .i64 S, .int .i64 V, .bool D])]) (by kernel_rfl) (by kernel_rfl) (HM3.out.push w2.heap.size _ _ rfl).drew ?_
              (repeat first
                        | (apply gRow_plain
                           · exact rfl
                           · intro wg hg
                             ((have hgm : Mm _ wg _ := hg; (obtain ⟨x00, x01, x02, x03, x00f, x01f, x02f, x03f, x0l⟩ := hgm.lay4 0 rfl; obtain ⟨x10, x11, x10f, x11f, x1l⟩ := hgm.lay2 1 rfl; obtain ⟨x20, x21, x22, x23, x20f, x21f, x22f, x23f, x2l⟩ := hgm.lay4 2 rfl)))
                             go_simp
                             first
                               | exact rfl
                               | exact hg
                               | exact ⟨hg, rfl⟩
                               | ((first | ((with_reducible refine (valid_true HV2.out _ _ (valid_i64 HV2.out).1 (valid_i64 HV2.out).2).mono ?_); rintro e w1 ⟨rfl, hb1⟩; exact ⟨rfl, Mm.call hg hb1⟩) | ((with_reducible refine (refAll_any _ _ hS1 hS4).mono ?_); rintro e w1 ⟨rfl, rfl⟩; exact ⟨rfl, hg⟩)))
                           intro K hK
                           go_simp
                           refine hK _ ?_
                           clear hK K)
                        | (apply gRow_step
                           · go_simp; done
                           · intro wg hg
                             ((have hgm : Mm _ wg _ := hg; (obtain ⟨x00, x01, x02, x03, x00f, x01f, x02f, x03f, x0l⟩ := hgm.lay4 0 rfl; obtain ⟨x10, x11, x10f, x11f, x1l⟩ := hgm.lay2 1 rfl; obtain ⟨x20, x21, x22, x23, x20f, x21f, x22f, x23f, x2l⟩ := hgm.lay4 2 rfl)))
                             go_simp
                             first
                               | exact rfl
                               | exact hg
                               | exact ⟨hg, rfl⟩
                               | ((first | ((with_reducible refine (valid_true HV2.out _ _ (valid_i64 HV2.out).1 (valid_i64 HV2.out).2).mono ?_); rintro e w1 ⟨rfl, hb1⟩; exact ⟨rfl, Mm.call hg hb1⟩) | ((with_reducible refine (refAll_any _ _ hS1 hS4).mono ?_); rintro e w1 ⟨rfl, rfl⟩; exact ⟨rfl, hg⟩)))
                           intro K hK
                           go_simp
                           refine hK _ ?_
                           clear hK K)
                        | (apply gRow_not
                           · go_simp; done
                           intro K hK
                           go_simp
                           refine hK _ ?_
                           clear hK K))
              refine gRow_nil ?_
              intro w4 hM5
              have HM5 := Lib.hid hM5
              clear hM5
              (obtain ⟨m00, m01, m02, m03, m00f, m01f, m02f, m03f, m0l⟩ := (HM5).out.lay4 0 rfl; obtain ⟨m10, m11, m10f, m11f, m1l⟩ := (HM5).out.lay2 1 rfl; obtain ⟨m20, m21, m22, m23, m20f, m21f, m22f, m23f, m2l⟩ := (HM5).out.lay4 2 rfl)
              go_wp2_with fail
              go_roundw
              case rel => exact ⟨k + 1, 3, S, x, e2, _, by omega, by go_num, rfl, hS1, hS4, ((HM5.out.put4 2 rfl _ _ _ _).drop).drop, HV2, Lib.hid (by first | rfl | simp_all)⟩
              case measure => simp [intOf]; omega)
           · have i6 : (1 + n8 == 6) = false := by simp; omega
             have i7 : (1 + n8 == 7) = false := by simp; omega
             obtain rfl : c = false := by rw [HC.out]; simp [g3, g4]
             have q3 : (q == 3) = false := by simpa using f3
             have q4 : (q == 4) = false := by simpa using f4
             (go_wp2_with (go_at_call 16; refine (apply_as HA.out _ (valid_i64 HV.out).1 (valid_i64 HV.out).2).mono ?_; rintro e w2 ⟨rfl, hb1⟩; have HM3 := Lib.hid (HM1.out.call hb1); clear m00 m01 m00f m01f m0l m10 m11 m12 m13 m10f m11f m12f m13f m1l; clear hb1)
              refine wp_region_grow (fun w' => Mm w w' [(w2.heap.size, #[.int .i64 q, .int .i64 S, .int .i64 x, .bool e2]), (b0, #[_, .int .i64 t]), (w.heap.size, #[_, .int .i64 S, .int .i64 V, .bool D])]) (by kernel_rfl) (by kernel_rfl) (HM3.out.push w2.heap.size _ _ rfl).drew ?_
              (repeat first
                        | (apply gRow_plain
                           · exact rfl
                           · intro wg hg
                             ((have hgm : Mm _ wg _ := hg; (obtain ⟨x00, x01, x02, x03, x00f, x01f, x02f, x03f, x0l⟩ := hgm.lay4 0 rfl; obtain ⟨x10, x11, x10f, x11f, x1l⟩ := hgm.lay2 1 rfl; obtain ⟨x20, x21, x22, x23, x20f, x21f, x22f, x23f, x2l⟩ := hgm.lay4 2 rfl)))
                             go_simp
                             first
                               | exact rfl
                               | exact hg
                               | exact ⟨hg, rfl⟩
                               | ((first | ((with_reducible refine (valid_true HV2.out _ _ (valid_i64 HV2.out).1 (valid_i64 HV2.out).2).mono ?_); rintro e w1 ⟨rfl, hb1⟩; exact ⟨rfl, Mm.call hg hb1⟩) | ((with_reducible refine (refAll_any _ _ hS1 hS4).mono ?_); rintro e w1 ⟨rfl, rfl⟩; exact ⟨rfl, hg⟩)))
                           intro K hK
                           go_simp
                           refine hK _ ?_
                           clear hK K)
                        | (apply gRow_step
                           · go_simp; done
                           · intro wg hg
                             ((have hgm : Mm _ wg _ := hg; (obtain ⟨x00, x01, x02, x03, x00f, x01f, x02f, x03f, x0l⟩ := hgm.lay4 0 rfl; obtain ⟨x10, x11, x10f, x11f, x1l⟩ := hgm.lay2 1 rfl; obtain ⟨x20, x21, x22, x23, x20f, x21f, x22f, x23f, x2l⟩ := hgm.lay4 2 rfl)))
                             go_simp
                             first
                               | exact rfl
                               | exact hg
                               | exact ⟨hg, rfl⟩
                               | ((first | ((with_reducible refine (valid_true HV2.out _ _ (valid_i64 HV2.out).1 (valid_i64 HV2.out).2).mono ?_); rintro e w1 ⟨rfl, hb1⟩; exact ⟨rfl, Mm.call hg hb1⟩) | ((with_reducible refine (refAll_any _ _ hS1 hS4).mono ?_); rintro e w1 ⟨rfl, rfl⟩; exact ⟨rfl, hg⟩)))
                           intro K hK
                           go_simp
                           refine hK _ ?_
                           clear hK K)
                        | (apply gRow_not
                           · go_simp; done
                           intro K hK
                           go_simp
                           refine hK _ ?_
                           clear hK K))
              refine gRow_nil ?_
              intro w4 hM5
              have HM5 := Lib.hid hM5
              clear hM5
              (obtain ⟨m00, m01, m02, m03, m00f, m01f, m02f, m03f, m0l⟩ := (HM5).out.lay4 0 rfl; obtain ⟨m10, m11, m10f, m11f, m1l⟩ := (HM5).out.lay2 1 rfl; obtain ⟨m20, m21, m22, m23, m20f, m21f, m22f, m23f, m2l⟩ := (HM5).out.lay4 2 rfl)
              go_wp2_with fail
              go_roundw
              case rel => exact ⟨k + 1, q, S, x, e2, _, by omega, by go_num, rfl, hS1, hS4, ((HM5.out.put4 2 rfl _ _ _ _).drop).drop, HV2, Lib.hid (by first | rfl | simp_all)⟩
              case measure => simp [intOf]; omega)
       · go_wp2_with (go_at_call 13; refine (awake_any _).mono ?_; rintro e w1 ⟨rfl, hb1⟩; have HB := Lib.hid (HM.out.call hb1))
         go_ret
         exact ⟨rfl, HB.out.below⟩)
end Go.Proofs.Ytpkgcklnknbbcaa
