/- The walk of MoveApplies. -/
import Derived.Test.YtpkgcklnknbbcaaO1
set_option linter.unusedVariables false
set_option linter.unusedSimpArgs false
set_option linter.unnecessarySimpa false
namespace Go.Proofs.Ytpkgcklnknbbcaa
open Go.RowKit

theorem valid_as {p s v : Int} {b : Bool} (h : validB p s v = b) (d : Bool) (w : World) (h1 : -9223372036854775808 ≤ v) (h2 : v ≤ 9223372036854775807) :
    Calls Try.prog 14 #[.agg #[.int .i64 p, .int .i64 s, .int .i64 v, .bool d]] w fun e w' => e = .returned (.bool b) ∧ Below w.heap.size w w' := by
  have := valid_any p s v d w h1 h2
  rw [h] at this
  exact this
theorem refValid_as {p s v : Int} {b : Bool} (h : validB p s v = b) (d : Bool) (w : World) :
    Calls Try.prog 18 #[.agg #[.int .i64 p, .int .i64 s, .int .i64 v, .bool d]] w fun e w' => e = .returned (.bool b) ∧ Below w.heap.size w w' := by
  have := refValid_any p s v d w
  rw [h] at this
  exact this
theorem next_as' {p s v : Int} {d : Bool} {k t : Int} (h : nextF p s v d = (k, t)) (w : World) (h1 : -9223372036854775808 ≤ v) (h2 : v ≤ 9223372036854775807) :
    Calls Try.prog 19 #[.agg #[.int .i64 p, .int .i64 s, .int .i64 v, .bool d]] w fun e w' => e = .returned (.agg #[.int .i64 k, .int .i64 t]) ∧ Below w.heap.size w w' := by
  have := next_any p s v d w h1 h2
  rw [h] at this
  exact this
theorem refNext_as {p s v : Int} {d : Bool} {k t : Int} (h : nextF p s v d = (k, t)) (w : World) :
    Calls Try.prog 20 #[.agg #[.int .i64 p, .int .i64 s, .int .i64 v, .bool d]] w fun e w' => e = .returned (.agg #[.int .i64 k, .int .i64 t]) ∧ Below w.heap.size w w' := by
  have := refNext_any p s v d w
  rw [h] at this
  exact this
theorem work_as' {p s v n : Int} (h : workF p s v = n) (d : Bool) (w : World) (h1 : -9223372036854775808 ≤ v) (h2 : v ≤ 9223372036854775807) :
    Calls Try.prog 21 #[.agg #[.int .i64 p, .int .i64 s, .int .i64 v, .bool d]] w fun e w' => e = .returned (.int .i64 n) ∧ Below w.heap.size w w' := by
  have := work_any p s v d w h1 h2
  rw [h] at this
  exact this
theorem refWork_as {p s v n : Int} (h : workF p s v = n) (d : Bool) (w : World) :
    Calls Try.prog 22 #[.agg #[.int .i64 p, .int .i64 s, .int .i64 v, .bool d]] w fun e w' => e = .returned (.int .i64 n) ∧ Below w.heap.size w w' := by
  have := refWork_any p s v d w
  rw [h] at this
  exact this

theorem two_states {p s v p' s' v' k t : Int} {d : Bool} {w : World} {b5 : Nat} (j : Nat) (hj : j < 2) (h1 : -9223372036854775808 ≤ v ∧ v ≤ 9223372036854775807) (h2 : -9223372036854775808 ≤ v' ∧ v' ≤ 9223372036854775807) :
    ∃ (P S V : Int) (D : Bool), (-9223372036854775808 ≤ V ∧ V ≤ 9223372036854775807) ∧ ∀ (L : List (Nat × Array Value)) (w' : World) (i : Nat), Mm w w' L → L[i]? = some (b5, #[.int .i64 p, .int .i64 s, .int .i64 v, .bool d, .int .i64 p', .int .i64 s', .int .i64 v', .bool d]) →
      w'.cell? ⟨b5, j * 4, none⟩ = some (.int .i64 P) ∧ w'.cell? ⟨b5, j * 4 + 1, none⟩ = some (.int .i64 S) ∧ w'.cell? ⟨b5, j * 4 + 2, none⟩ = some (.int .i64 V) ∧ w'.cell? ⟨b5, j * 4 + 3, none⟩ = some (.bool D) := by
  have hj' : j = 0 ∨ j = 1 := by omega
  rcases hj' with rfl | rfl
  · refine ⟨p, s, v, d, h1, fun L w' i hm hi => ?_⟩
    exact ⟨hm.get hi (i := 0) rfl, hm.get hi (i := 1) rfl, hm.get hi (i := 2) rfl, hm.get hi (i := 3) rfl⟩
  · refine ⟨p', s', v', d, h2, fun L w' i hm hi => ?_⟩
    exact ⟨hm.get hi (i := 4) rfl, hm.get hi (i := 5) rfl, hm.get hi (i := 6) rfl, hm.get hi (i := 7) rfl⟩


set_option maxRecDepth 100000 in
set_option maxHeartbeats 8000000 in
theorem applies_any (p s v : Int) (d : Bool) (k t : Int) (w : World) (hp : In64 p) (hs : In64 s) (hv : In64 v) (hk : In64 k) (ht : In64 t) :
    Calls Try.prog 4 #[.agg #[.int .i64 p, .int .i64 s, .int .i64 v, .bool d], .agg #[.int .i64 k, .int .i64 t]] w (RetB true w) := by
  obtain ⟨p', s', v', hn, hkv⟩ := near_valid p s v d
  have HN := Lib.hid hn
  have HV := Lib.hid hkv
  have HP := Lib.hid (show (-9223372036854775808 ≤ p ∧ p ≤ 9223372036854775807) ∧ (-9223372036854775808 ≤ s ∧ s ≤ 9223372036854775807) ∧ (-9223372036854775808 ≤ v ∧ v ≤ 9223372036854775807) ∧ (-9223372036854775808 ≤ k ∧ k ≤ 9223372036854775807) ∧ (-9223372036854775808 ≤ t ∧ t ≤ 9223372036854775807) from ⟨hp, hs, hv, hk, ht⟩)
  have HB1 := Lib.hid HP.out.2.2.1
  have HB2 := Lib.hid (valid_i64 hkv)
  obtain ⟨n8, hn8⟩ : ∃ n8, n8 = k % 8 := ⟨_, rfl⟩
  obtain ⟨n5, hn5⟩ : ∃ n5, n5 = t % 5 := ⟨_, rfl⟩
  have g0 : 0 ≤ n8 := by omega
  have g8 : n8 < 8 := by omega
  have HN8 := Lib.hid hn8
  have HN5 := Lib.hid hn5
  have hw64 : IntKind.i64.wrap (1 + n8) = 1 + n8 := IntWalk.i64_in _ (by omega)
  have HW64 := Lib.hid hw64
  clear hn hkv hp hs hv hk ht hn8 hn5 hw64
  go_enter Try.func4, Try.ntmps4
  go_wp2_with fail
  have HM0 := Lib.hid (show Mm w _ [(w.heap.size + 1, #[.int .i64 k, .int .i64 t]), (w.heap.size, #[.int .i64 p, .int .i64 s, .int .i64 v, .bool d])] from (Mm.box (w := w) _ 23).push _ _ 32 (by simp))
  refine wp_region_grow_tail (fun w' => Mm w w' [(w.heap.size + 1, #[.int .i64 k, .int .i64 t]), (w.heap.size, #[.int .i64 p, .int .i64 s, .int .i64 v, .bool d])]) 3 (by kernel_rfl) (by kernel_rfl) HM0.out.drew ?_
  simp only [List.take_succ_cons, List.take_zero, List.drop_succ_cons, List.drop_zero]
  repeat first
           | (apply gRow_plain
              · exact rfl
              · intro wg hg
                ((have hgm : Mm w wg _ := hg; (obtain ⟨x00, x01, -⟩ := hgm.lay2 0 rfl; obtain ⟨x10, x11, x12, x13, -⟩ := hgm.lay4 1 rfl)))
                go_simp
                first
                  | exact rfl
                  | exact hg
                  | exact ⟨hg, rfl⟩
                  | ((refine (near_as HN.out _ HP.out.1 HP.out.2.1 HP.out.2.2.1).mono ?_; rintro e w1 ⟨rfl, hb1⟩; exact ⟨rfl, Mm.call hg hb1⟩))
              intro K hK
              go_simp
              refine hK _ ?_
              clear hK K)
           | (apply gRow_step
              · go_simp; done
              · intro wg hg
                ((have hgm : Mm w wg _ := hg; (obtain ⟨x00, x01, -⟩ := hgm.lay2 0 rfl; obtain ⟨x10, x11, x12, x13, -⟩ := hgm.lay4 1 rfl)))
                go_simp
                first
                  | exact rfl
                  | exact hg
                  | exact ⟨hg, rfl⟩
                  | ((refine (near_as HN.out _ HP.out.1 HP.out.2.1 HP.out.2.2.1).mono ?_; rintro e w1 ⟨rfl, hb1⟩; exact ⟨rfl, Mm.call hg hb1⟩))
              intro K hK
              go_simp
              refine hK _ ?_
              clear hK K)
           | (apply gRow_not
              · go_simp; done
              intro K hK
              go_simp
              refine hK _ ?_
              clear hK K)
  refine gRow_nil ?_
  intro w1 hM1
  have HM1 := Lib.hid hM1
  clear hM1 HM0
  go_wp2_with fail
  have HM := Lib.hid (show Mm w _ [(w1.heap.size, #[.int .i64 p, .int .i64 s, .int .i64 v, .bool d, .int .i64 p', .int .i64 s', .int .i64 v', .bool d]), (w.heap.size + 1, #[.int .i64 k, .int .i64 t]), (w.heap.size, #[.int .i64 p, .int .i64 s, .int .i64 v, .bool d])] from HM1.out.push _ _ 23 rfl)
  generalize w1.alloc (.cells #[.int .i64 p, .int .i64 s, .int .i64 v, .bool d, .int .i64 p', .int .i64 s', .int .i64 v', .bool d] 23) = wr at *
  clear HM1
  generalize w1.heap.size = b5 at *
  go_loopw [6] (fun i wr => ∃ j : Nat, j ≤ 2 ∧ i = .int .i64 j ∧ Mm w wr [(b5, #[.int .i64 p, .int .i64 s, .int .i64 v, .bool d, .int .i64 p', .int .i64 s', .int .i64 v', .bool d]), (w.heap.size + 1, #[.int .i64 k, .int .i64 t]), (w.heap.size, #[.int .i64 p, .int .i64 s, .int .i64 v, .bool d])]) (fun i _ => 2 - (intOf i).toNat)
  case atStart => exact ⟨0, by omega, rfl, HM.out⟩
  case round =>
    clear HM
    rename World => wr
    obtain ⟨j, hj, rfl, hM⟩ := hrel
    have HM := Lib.hid hM
    clear hM
    by_cases hlt : j < 2
    · obtain ⟨P, S, V, D, hVb, hcell⟩ := two_states (p := p) (s := s) (v := v) (d := d) (p' := p') (s' := s') (v' := v') (k := k) (t := t) (w := w) (b5 := b5) j hlt HB1.out HB2.out
      have HB := Lib.hid hVb
      have HCL := Lib.hid hcell
      clear hVb hcell
      (obtain ⟨⟨⟨q1, q2, q3, q4⟩, nq⟩, hY⟩ : ∃ y, applyF P S V D k t = y := ⟨_, rfl⟩
       obtain ⟨⟨⟨r1, r2, r3, r4⟩, nr⟩, hZ⟩ : ∃ y, applyF P S V D (1 + n8) n5 = y := ⟨_, rfl⟩
       obtain ⟨⟨kx, tx⟩, hX⟩ : ∃ y, nextF P S V D = y := ⟨_, rfl⟩
       obtain ⟨wk, hwk⟩ : ∃ y, workF P S V = y := ⟨_, rfl⟩
       obtain ⟨bv, hbv⟩ : ∃ y, validB P S V = y := ⟨_, rfl⟩
       have HY := Lib.hid hY
       have HZ := Lib.hid hZ
       have HX := Lib.hid hX
       have HWK := Lib.hid hwk
       have HBV := Lib.hid hbv
       clear hY hZ hX hwk hbv
       go_wp2_with fail
       have hw64 := HW64.out
       refine wp_region_late (Up w wr [(b5, #[.int .i64 p, .int .i64 s, .int .i64 v, .bool d, .int .i64 p', .int .i64 s', .int .i64 v', .bool d]), (w.heap.size + 1, #[.int .i64 k, .int .i64 t]), (w.heap.size, #[.int .i64 p, .int .i64 s, .int .i64 v, .bool d])]) 8 (by kernel_rfl) (by kernel_rfl) Up.stable (Up.start (HM).out) ?_
       simp only [List.take_succ_cons, List.take_zero, List.drop_succ_cons, List.drop_zero]
       (repeat first
                 | (apply bRow_plain
                    · exact rfl
                    · intro wg hg
                      ((have hgm : Mm w wg _ := hg.1; (obtain ⟨x10, x11, -⟩ := hgm.lay2 1 rfl)))
                      go_simp
                      first
                        | exact rfl
                        | exact Below.refl _ _
                        | exact ⟨Below.refl _ _, rfl⟩
                        | ((first | ((with_reducible refine (within_any k 8 _ (by decide) (by decide) HP.out.2.2.2.1.1 HP.out.2.2.2.1.2).mono ?_); rintro e w1 ⟨rfl, rfl⟩; exact ⟨by rw [← HN8.out], Below.refl _ _⟩) | ((with_reducible refine (within_any t 5 _ (by decide) (by decide) HP.out.2.2.2.2.1 HP.out.2.2.2.2.2).mono ?_); rintro e w1 ⟨rfl, rfl⟩; exact ⟨by rw [← HN5.out], Below.refl _ _⟩)))
                    intro K hK
                    go_simp
                    refine hK _ ?_
                    clear hK K)
                 | (apply bRow_step
                    · go_simp; done
                    · intro wg hg
                      ((have hgm : Mm w wg _ := hg.1; (obtain ⟨x10, x11, -⟩ := hgm.lay2 1 rfl)))
                      go_simp
                      first
                        | exact rfl
                        | exact Below.refl _ _
                        | exact ⟨Below.refl _ _, rfl⟩
                        | ((first | ((with_reducible refine (within_any k 8 _ (by decide) (by decide) HP.out.2.2.2.1.1 HP.out.2.2.2.1.2).mono ?_); rintro e w1 ⟨rfl, rfl⟩; exact ⟨by rw [← HN8.out], Below.refl _ _⟩) | ((with_reducible refine (within_any t 5 _ (by decide) (by decide) HP.out.2.2.2.2.1 HP.out.2.2.2.2.2).mono ?_); rintro e w1 ⟨rfl, rfl⟩; exact ⟨by rw [← HN5.out], Below.refl _ _⟩)))
                    intro K hK
                    go_simp
                    refine hK _ ?_
                    clear hK K)
                 | (apply bRow_not
                    · go_simp; done
                    intro K hK
                    go_simp
                    refine hK _ ?_
                    clear hK K))
       refine bRow_nil ?_
       refine sRow_alloc (wr).heap.size #[.int .i64 0, .int .i64 0] 32 Up.stable (fun _ h => h.2) (fun _ h => h) rfl (by intro w0; go_simp) ?_
       intro b7 K hK
       go_simp
       refine hK _ ?_
       clear hK K
       refine sRow_store [.int .i64 (1 + n8), .int .i64 n5] Up.stable (Up.set (HM).out) rfl rfl (by intro w0 h0; obtain ⟨x0, x1, x0f, x1f, xl⟩ := (h0).lay2; go_simp; rfl) ?_
       intro K hK
       go_simp
       refine hK _ ?_
       clear hK K
       refine sRow_nil ?_
       clear hw64
       intro wa hWa
       have HMa := Lib.hid (show Mm w wa [(b7, #[.int .i64 (1 + n8), .int .i64 n5]), (b5, #[.int .i64 p, .int .i64 s, .int .i64 v, .bool d, .int .i64 p', .int .i64 s', .int .i64 v', .bool d]), (w.heap.size + 1, #[.int .i64 k, .int .i64 t]), (w.heap.size, #[.int .i64 p, .int .i64 s, .int .i64 v, .bool d])] from hWa.mm (HM).out)
       clear hWa
       go_wp2_with fail
       refine wp_region_late (Up w wa [(b7, #[.int .i64 (1 + n8), .int .i64 n5]), (b5, #[.int .i64 p, .int .i64 s, .int .i64 v, .bool d, .int .i64 p', .int .i64 s', .int .i64 v', .bool d]), (w.heap.size + 1, #[.int .i64 k, .int .i64 t]), (w.heap.size, #[.int .i64 p, .int .i64 s, .int .i64 v, .bool d])]) 9 (by kernel_rfl) (by kernel_rfl) Up.stable (Up.start HMa.out) ?_
       simp only [List.take_succ_cons, List.take_zero, List.drop_succ_cons, List.drop_zero]
       (repeat first
                 | (apply bRow_plain
                    · exact rfl
                    · intro wg hg
                      ((have hgm : Mm w wg _ := hg.1; (obtain ⟨x00, x01, -⟩ := hgm.lay2 0 rfl; obtain ⟨x20, x21, -⟩ := hgm.lay2 2 rfl); obtain ⟨y0, y1, y2, y3⟩ := HCL.out _ _ 1 hgm rfl))
                      go_simp
                      first
                        | exact rfl
                        | exact Below.refl _ _
                        | exact ⟨Below.refl _ _, rfl⟩
                        | ((refine (apply_as HY.out _ (HB).out.1 (HB).out.2).mono ?_; rintro e w1 ⟨rfl, hb1⟩; exact ⟨rfl, hb1⟩))
                    intro K hK
                    go_simp
                    refine hK _ ?_
                    clear hK K)
                 | (apply bRow_step
                    · go_simp; done
                    · intro wg hg
                      ((have hgm : Mm w wg _ := hg.1; (obtain ⟨x00, x01, -⟩ := hgm.lay2 0 rfl; obtain ⟨x20, x21, -⟩ := hgm.lay2 2 rfl); obtain ⟨y0, y1, y2, y3⟩ := HCL.out _ _ 1 hgm rfl))
                      go_simp
                      first
                        | exact rfl
                        | exact Below.refl _ _
                        | exact ⟨Below.refl _ _, rfl⟩
                        | ((refine (apply_as HY.out _ (HB).out.1 (HB).out.2).mono ?_; rintro e w1 ⟨rfl, hb1⟩; exact ⟨rfl, hb1⟩))
                    intro K hK
                    go_simp
                    refine hK _ ?_
                    clear hK K)
                 | (apply bRow_not
                    · go_simp; done
                    intro K hK
                    go_simp
                    refine hK _ ?_
                    clear hK K))
       refine bRow_nil ?_
       refine sRow_alloc (wa).heap.size #[.int .i64 0, .int .i64 0, .int .i64 0, .bool false] 23 Up.stable (fun _ h => h.2) (fun _ h => h) rfl (by intro w0; go_simp) ?_
       intro b8 K hK
       go_simp
       refine hK _ ?_
       clear hK K
       refine sRow_store [.int .i64 q1, .int .i64 q2, .int .i64 q3, .bool q4] Up.stable (Up.set HMa.out) rfl rfl (by intro w0 h0; obtain ⟨x0, x1, x2, x3, x0f, x1f, x2f, x3f, xl⟩ := (h0).lay4; go_simp; rfl) ?_
       intro K hK
       go_simp
       refine hK _ ?_
       clear hK K
       refine sRow_same (.int .i64 nq) rfl (by intro w0 h0; go_simp; first | exact Below.refl _ _ | exact ⟨Below.refl _ _, rfl⟩) ?_
       intro K hK
       go_simp
       refine hK _ ?_
       clear hK K
       refine sRow_nil ?_
       intro wb hWa
       have HMb := Lib.hid (show Mm w wb [(b8, #[.int .i64 q1, .int .i64 q2, .int .i64 q3, .bool q4]), (b7, #[.int .i64 (1 + n8), .int .i64 n5]), (b5, #[.int .i64 p, .int .i64 s, .int .i64 v, .bool d, .int .i64 p', .int .i64 s', .int .i64 v', .bool d]), (w.heap.size + 1, #[.int .i64 k, .int .i64 t]), (w.heap.size, #[.int .i64 p, .int .i64 s, .int .i64 v, .bool d])] from hWa.mm HMa.out)
       clear hWa
       go_wp2_with fail
       refine wp_region_late (Up w wb [(b8, #[.int .i64 q1, .int .i64 q2, .int .i64 q3, .bool q4]), (b7, #[.int .i64 (1 + n8), .int .i64 n5]), (b5, #[.int .i64 p, .int .i64 s, .int .i64 v, .bool d, .int .i64 p', .int .i64 s', .int .i64 v', .bool d]), (w.heap.size + 1, #[.int .i64 k, .int .i64 t]), (w.heap.size, #[.int .i64 p, .int .i64 s, .int .i64 v, .bool d])]) 9 (by kernel_rfl) (by kernel_rfl) Up.stable (Up.start HMb.out) ?_
       simp only [List.take_succ_cons, List.take_zero, List.drop_succ_cons, List.drop_zero]
       (repeat first
                 | (apply bRow_plain
                    · exact rfl
                    · intro wg hg
                      ((have hgm : Mm w wg _ := hg.1; (obtain ⟨x00, x01, x02, x03, -⟩ := hgm.lay4 0 rfl; obtain ⟨x10, x11, -⟩ := hgm.lay2 1 rfl; obtain ⟨x30, x31, -⟩ := hgm.lay2 3 rfl); obtain ⟨y0, y1, y2, y3⟩ := HCL.out _ _ 2 hgm rfl))
                      go_simp
                      first
                        | exact rfl
                        | exact Below.refl _ _
                        | exact ⟨Below.refl _ _, rfl⟩
                        | ((refine (refApply_as HY.out _).mono ?_; rintro e w1 ⟨rfl, hb1⟩; exact ⟨rfl, hb1⟩))
                    intro K hK
                    go_simp
                    refine hK _ ?_
                    clear hK K)
                 | (apply bRow_step
                    · go_simp; done
                    · intro wg hg
                      ((have hgm : Mm w wg _ := hg.1; (obtain ⟨x00, x01, x02, x03, -⟩ := hgm.lay4 0 rfl; obtain ⟨x10, x11, -⟩ := hgm.lay2 1 rfl; obtain ⟨x30, x31, -⟩ := hgm.lay2 3 rfl); obtain ⟨y0, y1, y2, y3⟩ := HCL.out _ _ 2 hgm rfl))
                      go_simp
                      first
                        | exact rfl
                        | exact Below.refl _ _
                        | exact ⟨Below.refl _ _, rfl⟩
                        | ((refine (refApply_as HY.out _).mono ?_; rintro e w1 ⟨rfl, hb1⟩; exact ⟨rfl, hb1⟩))
                    intro K hK
                    go_simp
                    refine hK _ ?_
                    clear hK K)
                 | (apply bRow_not
                    · go_simp; done
                    intro K hK
                    go_simp
                    refine hK _ ?_
                    clear hK K))
       refine bRow_nil ?_
       refine sRow_alloc (wb).heap.size #[.int .i64 0, .int .i64 0, .int .i64 0, .bool false] 23 Up.stable (fun _ h => h.2) (fun _ h => h) rfl (by intro w0; go_simp) ?_
       intro b10 K hK
       go_simp
       refine hK _ ?_
       clear hK K
       refine sRow_store [.int .i64 q1, .int .i64 q2, .int .i64 q3, .bool q4] Up.stable (Up.set HMb.out) rfl rfl (by intro w0 h0; obtain ⟨x0, x1, x2, x3, x0f, x1f, x2f, x3f, xl⟩ := (h0).lay4; go_simp; rfl) ?_
       intro K hK
       go_simp
       refine hK _ ?_
       clear hK K
       refine sRow_same (.int .i64 nq) rfl (by intro w0 h0; go_simp; first | exact Below.refl _ _ | exact ⟨Below.refl _ _, rfl⟩) ?_
       intro K hK
       go_simp
       refine hK _ ?_
       clear hK K
       refine sRow_nil ?_
       intro wc hWa
       have HMc := Lib.hid (show Mm w wc [(b10, #[.int .i64 q1, .int .i64 q2, .int .i64 q3, .bool q4]), (b8, #[.int .i64 q1, .int .i64 q2, .int .i64 q3, .bool q4]), (b7, #[.int .i64 (1 + n8), .int .i64 n5]), (b5, #[.int .i64 p, .int .i64 s, .int .i64 v, .bool d, .int .i64 p', .int .i64 s', .int .i64 v', .bool d]), (w.heap.size + 1, #[.int .i64 k, .int .i64 t]), (w.heap.size, #[.int .i64 p, .int .i64 s, .int .i64 v, .bool d])] from hWa.mm HMb.out)
       clear hWa
       go_wp2_with fail
       refine wp_region_late (Up w wc [(b10, #[.int .i64 q1, .int .i64 q2, .int .i64 q3, .bool q4]), (b8, #[.int .i64 q1, .int .i64 q2, .int .i64 q3, .bool q4]), (b7, #[.int .i64 (1 + n8), .int .i64 n5]), (b5, #[.int .i64 p, .int .i64 s, .int .i64 v, .bool d, .int .i64 p', .int .i64 s', .int .i64 v', .bool d]), (w.heap.size + 1, #[.int .i64 k, .int .i64 t]), (w.heap.size, #[.int .i64 p, .int .i64 s, .int .i64 v, .bool d])]) 9 (by kernel_rfl) (by kernel_rfl) Up.stable (Up.start HMc.out) ?_
       simp only [List.take_succ_cons, List.take_zero, List.drop_succ_cons, List.drop_zero]
       (repeat first
                 | (apply bRow_plain
                    · exact rfl
                    · intro wg hg
                      ((have hgm : Mm w wg _ := hg.1; (obtain ⟨x00, x01, x02, x03, -⟩ := hgm.lay4 0 rfl; obtain ⟨x10, x11, x12, x13, -⟩ := hgm.lay4 1 rfl; obtain ⟨x20, x21, -⟩ := hgm.lay2 2 rfl; obtain ⟨x40, x41, -⟩ := hgm.lay2 4 rfl); obtain ⟨y0, y1, y2, y3⟩ := HCL.out _ _ 3 hgm rfl))
                      go_simp
                      first
                        | exact rfl
                        | exact Below.refl _ _
                        | exact ⟨Below.refl _ _, rfl⟩
                        | ((refine (apply_as HZ.out _ (HB).out.1 (HB).out.2).mono ?_; rintro e w1 ⟨rfl, hb1⟩; exact ⟨rfl, hb1⟩))
                    intro K hK
                    go_simp
                    refine hK _ ?_
                    clear hK K)
                 | (apply bRow_step
                    · go_simp; done
                    · intro wg hg
                      ((have hgm : Mm w wg _ := hg.1; (obtain ⟨x00, x01, x02, x03, -⟩ := hgm.lay4 0 rfl; obtain ⟨x10, x11, x12, x13, -⟩ := hgm.lay4 1 rfl; obtain ⟨x20, x21, -⟩ := hgm.lay2 2 rfl; obtain ⟨x40, x41, -⟩ := hgm.lay2 4 rfl); obtain ⟨y0, y1, y2, y3⟩ := HCL.out _ _ 3 hgm rfl))
                      go_simp
                      first
                        | exact rfl
                        | exact Below.refl _ _
                        | exact ⟨Below.refl _ _, rfl⟩
                        | ((refine (apply_as HZ.out _ (HB).out.1 (HB).out.2).mono ?_; rintro e w1 ⟨rfl, hb1⟩; exact ⟨rfl, hb1⟩))
                    intro K hK
                    go_simp
                    refine hK _ ?_
                    clear hK K)
                 | (apply bRow_not
                    · go_simp; done
                    intro K hK
                    go_simp
                    refine hK _ ?_
                    clear hK K))
       refine bRow_nil ?_
       refine sRow_alloc (wc).heap.size #[.int .i64 0, .int .i64 0, .int .i64 0, .bool false] 23 Up.stable (fun _ h => h.2) (fun _ h => h) rfl (by intro w0; go_simp) ?_
       intro b12 K hK
       go_simp
       refine hK _ ?_
       clear hK K
       refine sRow_store [.int .i64 r1, .int .i64 r2, .int .i64 r3, .bool r4] Up.stable (Up.set HMc.out) rfl rfl (by intro w0 h0; obtain ⟨x0, x1, x2, x3, x0f, x1f, x2f, x3f, xl⟩ := (h0).lay4; go_simp; rfl) ?_
       intro K hK
       go_simp
       refine hK _ ?_
       clear hK K
       refine sRow_same (.int .i64 nr) rfl (by intro w0 h0; go_simp; first | exact Below.refl _ _ | exact ⟨Below.refl _ _, rfl⟩) ?_
       intro K hK
       go_simp
       refine hK _ ?_
       clear hK K
       refine sRow_nil ?_
       intro wd hWa
       have HMd := Lib.hid (show Mm w wd [(b12, #[.int .i64 r1, .int .i64 r2, .int .i64 r3, .bool r4]), (b10, #[.int .i64 q1, .int .i64 q2, .int .i64 q3, .bool q4]), (b8, #[.int .i64 q1, .int .i64 q2, .int .i64 q3, .bool q4]), (b7, #[.int .i64 (1 + n8), .int .i64 n5]), (b5, #[.int .i64 p, .int .i64 s, .int .i64 v, .bool d, .int .i64 p', .int .i64 s', .int .i64 v', .bool d]), (w.heap.size + 1, #[.int .i64 k, .int .i64 t]), (w.heap.size, #[.int .i64 p, .int .i64 s, .int .i64 v, .bool d])] from hWa.mm HMc.out)
       clear hWa
       go_wp2_with fail
       refine wp_region_late (Up w wd [(b12, #[.int .i64 r1, .int .i64 r2, .int .i64 r3, .bool r4]), (b10, #[.int .i64 q1, .int .i64 q2, .int .i64 q3, .bool q4]), (b8, #[.int .i64 q1, .int .i64 q2, .int .i64 q3, .bool q4]), (b7, #[.int .i64 (1 + n8), .int .i64 n5]), (b5, #[.int .i64 p, .int .i64 s, .int .i64 v, .bool d, .int .i64 p', .int .i64 s', .int .i64 v', .bool d]), (w.heap.size + 1, #[.int .i64 k, .int .i64 t]), (w.heap.size, #[.int .i64 p, .int .i64 s, .int .i64 v, .bool d])]) 9 (by kernel_rfl) (by kernel_rfl) Up.stable (Up.start HMd.out) ?_
       simp only [List.take_succ_cons, List.take_zero, List.drop_succ_cons, List.drop_zero]
       (repeat first
                 | (apply bRow_plain
                    · exact rfl
                    · intro wg hg
                      ((have hgm : Mm w wg _ := hg.1; (obtain ⟨x00, x01, x02, x03, -⟩ := hgm.lay4 0 rfl; obtain ⟨x10, x11, x12, x13, -⟩ := hgm.lay4 1 rfl; obtain ⟨x20, x21, x22, x23, -⟩ := hgm.lay4 2 rfl; obtain ⟨x30, x31, -⟩ := hgm.lay2 3 rfl; obtain ⟨x50, x51, -⟩ := hgm.lay2 5 rfl); obtain ⟨y0, y1, y2, y3⟩ := HCL.out _ _ 4 hgm rfl))
                      go_simp
                      first
                        | exact rfl
                        | exact Below.refl _ _
                        | exact ⟨Below.refl _ _, rfl⟩
                        | ((refine (refApply_as HZ.out _).mono ?_; rintro e w1 ⟨rfl, hb1⟩; exact ⟨rfl, hb1⟩))
                    intro K hK
                    go_simp
                    refine hK _ ?_
                    clear hK K)
                 | (apply bRow_step
                    · go_simp; done
                    · intro wg hg
                      ((have hgm : Mm w wg _ := hg.1; (obtain ⟨x00, x01, x02, x03, -⟩ := hgm.lay4 0 rfl; obtain ⟨x10, x11, x12, x13, -⟩ := hgm.lay4 1 rfl; obtain ⟨x20, x21, x22, x23, -⟩ := hgm.lay4 2 rfl; obtain ⟨x30, x31, -⟩ := hgm.lay2 3 rfl; obtain ⟨x50, x51, -⟩ := hgm.lay2 5 rfl); obtain ⟨y0, y1, y2, y3⟩ := HCL.out _ _ 4 hgm rfl))
                      go_simp
                      first
                        | exact rfl
                        | exact Below.refl _ _
                        | exact ⟨Below.refl _ _, rfl⟩
                        | ((refine (refApply_as HZ.out _).mono ?_; rintro e w1 ⟨rfl, hb1⟩; exact ⟨rfl, hb1⟩))
                    intro K hK
                    go_simp
                    refine hK _ ?_
                    clear hK K)
                 | (apply bRow_not
                    · go_simp; done
                    intro K hK
                    go_simp
                    refine hK _ ?_
                    clear hK K))
       refine bRow_nil ?_
       refine sRow_alloc (wd).heap.size #[.int .i64 0, .int .i64 0, .int .i64 0, .bool false] 23 Up.stable (fun _ h => h.2) (fun _ h => h) rfl (by intro w0; go_simp) ?_
       intro b14 K hK
       go_simp
       refine hK _ ?_
       clear hK K
       refine sRow_store [.int .i64 r1, .int .i64 r2, .int .i64 r3, .bool r4] Up.stable (Up.set HMd.out) rfl rfl (by intro w0 h0; obtain ⟨x0, x1, x2, x3, x0f, x1f, x2f, x3f, xl⟩ := (h0).lay4; go_simp; rfl) ?_
       intro K hK
       go_simp
       refine hK _ ?_
       clear hK K
       refine sRow_same (.int .i64 nr) rfl (by intro w0 h0; go_simp; first | exact Below.refl _ _ | exact ⟨Below.refl _ _, rfl⟩) ?_
       intro K hK
       go_simp
       refine hK _ ?_
       clear hK K
       refine sRow_nil ?_
       intro we hWa
       have HMe := Lib.hid (show Mm w we [(b14, #[.int .i64 r1, .int .i64 r2, .int .i64 r3, .bool r4]), (b12, #[.int .i64 r1, .int .i64 r2, .int .i64 r3, .bool r4]), (b10, #[.int .i64 q1, .int .i64 q2, .int .i64 q3, .bool q4]), (b8, #[.int .i64 q1, .int .i64 q2, .int .i64 q3, .bool q4]), (b7, #[.int .i64 (1 + n8), .int .i64 n5]), (b5, #[.int .i64 p, .int .i64 s, .int .i64 v, .bool d, .int .i64 p', .int .i64 s', .int .i64 v', .bool d]), (w.heap.size + 1, #[.int .i64 k, .int .i64 t]), (w.heap.size, #[.int .i64 p, .int .i64 s, .int .i64 v, .bool d])] from hWa.mm HMd.out)
       clear hWa
       go_wp2_with fail
       refine wp_region_grow (fun w' => Mm w w' [(b14, #[.int .i64 r1, .int .i64 r2, .int .i64 r3, .bool r4]), (b12, #[.int .i64 r1, .int .i64 r2, .int .i64 r3, .bool r4]), (b10, #[.int .i64 q1, .int .i64 q2, .int .i64 q3, .bool q4]), (b8, #[.int .i64 q1, .int .i64 q2, .int .i64 q3, .bool q4]), (b7, #[.int .i64 (1 + n8), .int .i64 n5]), (b5, #[.int .i64 p, .int .i64 s, .int .i64 v, .bool d, .int .i64 p', .int .i64 s', .int .i64 v', .bool d]), (w.heap.size + 1, #[.int .i64 k, .int .i64 t]), (w.heap.size, #[.int .i64 p, .int .i64 s, .int .i64 v, .bool d])]) (by kernel_rfl) (by kernel_rfl) HMe.out.drew ?_
       (repeat first
                 | (apply gRow_plain
                    · exact rfl
                    · intro wg hg
                      ((have hgm : Mm w wg _ := hg; (obtain ⟨x00, x01, x02, x03, -⟩ := hgm.lay4 0 rfl; obtain ⟨x10, x11, x12, x13, -⟩ := hgm.lay4 1 rfl; obtain ⟨x20, x21, x22, x23, -⟩ := hgm.lay4 2 rfl; obtain ⟨x30, x31, x32, x33, -⟩ := hgm.lay4 3 rfl; obtain ⟨x40, x41, -⟩ := hgm.lay2 4 rfl; obtain ⟨x60, x61, -⟩ := hgm.lay2 6 rfl); obtain ⟨y0, y1, y2, y3⟩ := HCL.out _ _ 5 hgm rfl))
                      go_simp
                      first
                        | exact rfl
                        | exact hg
                        | exact ⟨hg, rfl⟩
                        | ((first | ((with_reducible refine (valid_as HBV.out _ _ (HB).out.1 (HB).out.2).mono ?_); rintro e w1 ⟨rfl, hb1⟩; exact ⟨rfl, Mm.call hg hb1⟩) | ((with_reducible refine (refValid_as HBV.out _ _).mono ?_); rintro e w1 ⟨rfl, hb1⟩; exact ⟨rfl, Mm.call hg hb1⟩) | ((with_reducible refine (next_as' HX.out _ (HB).out.1 (HB).out.2).mono ?_); rintro e w1 ⟨rfl, hb1⟩; exact ⟨rfl, Mm.call hg hb1⟩) | ((with_reducible refine (refNext_as HX.out _).mono ?_); rintro e w1 ⟨rfl, hb1⟩; exact ⟨rfl, Mm.call hg hb1⟩) | ((with_reducible refine (work_as' HWK.out _ _ (HB).out.1 (HB).out.2).mono ?_); rintro e w1 ⟨rfl, hb1⟩; exact ⟨rfl, Mm.call hg hb1⟩) | ((with_reducible refine (refWork_as HWK.out _ _).mono ?_); rintro e w1 ⟨rfl, hb1⟩; exact ⟨rfl, Mm.call hg hb1⟩)))
                    intro K hK
                    go_simp
                    refine hK _ ?_
                    clear hK K)
                 | (apply gRow_step
                    · go_simp; done
                    · intro wg hg
                      ((have hgm : Mm w wg _ := hg; (obtain ⟨x00, x01, x02, x03, -⟩ := hgm.lay4 0 rfl; obtain ⟨x10, x11, x12, x13, -⟩ := hgm.lay4 1 rfl; obtain ⟨x20, x21, x22, x23, -⟩ := hgm.lay4 2 rfl; obtain ⟨x30, x31, x32, x33, -⟩ := hgm.lay4 3 rfl; obtain ⟨x40, x41, -⟩ := hgm.lay2 4 rfl; obtain ⟨x60, x61, -⟩ := hgm.lay2 6 rfl); obtain ⟨y0, y1, y2, y3⟩ := HCL.out _ _ 5 hgm rfl))
                      go_simp
                      first
                        | exact rfl
                        | exact hg
                        | exact ⟨hg, rfl⟩
                        | ((first | ((with_reducible refine (valid_as HBV.out _ _ (HB).out.1 (HB).out.2).mono ?_); rintro e w1 ⟨rfl, hb1⟩; exact ⟨rfl, Mm.call hg hb1⟩) | ((with_reducible refine (refValid_as HBV.out _ _).mono ?_); rintro e w1 ⟨rfl, hb1⟩; exact ⟨rfl, Mm.call hg hb1⟩) | ((with_reducible refine (next_as' HX.out _ (HB).out.1 (HB).out.2).mono ?_); rintro e w1 ⟨rfl, hb1⟩; exact ⟨rfl, Mm.call hg hb1⟩) | ((with_reducible refine (refNext_as HX.out _).mono ?_); rintro e w1 ⟨rfl, hb1⟩; exact ⟨rfl, Mm.call hg hb1⟩) | ((with_reducible refine (work_as' HWK.out _ _ (HB).out.1 (HB).out.2).mono ?_); rintro e w1 ⟨rfl, hb1⟩; exact ⟨rfl, Mm.call hg hb1⟩) | ((with_reducible refine (refWork_as HWK.out _ _).mono ?_); rintro e w1 ⟨rfl, hb1⟩; exact ⟨rfl, Mm.call hg hb1⟩)))
                    intro K hK
                    go_simp
                    refine hK _ ?_
                    clear hK K)
                 | (apply gRow_not
                    · go_simp; done
                    intro K hK
                    go_simp
                    refine hK _ ?_
                    clear hK K))
       refine gRow_nil ?_
       intro wf hMf
       have HMf := Lib.hid (show Mm w wf [(b5, #[.int .i64 p, .int .i64 s, .int .i64 v, .bool d, .int .i64 p', .int .i64 s', .int .i64 v', .bool d]), (w.heap.size + 1, #[.int .i64 k, .int .i64 t]), (w.heap.size, #[.int .i64 p, .int .i64 s, .int .i64 v, .bool d])] from ((((Mm.drop hMf).drop).drop).drop).drop)
       clear hMf HMa HMb HMc HMd HMe HY HZ HX HWK HBV
       go_wp2_with fail)
      go_roundw
      case rel => exact ⟨j + 1, by omega, by go_num, HMf.out⟩
      case measure => simp [intOf]; omega
    · go_wp2_with (go_at_call 13; refine (awake_any _).mono ?_; rintro e w1 ⟨rfl, hb1⟩; have HB := Lib.hid (HM.out.call hb1))
      go_ret
      exact ⟨rfl, HB.out.below⟩
end Go.Proofs.Ytpkgcklnknbbcaa
