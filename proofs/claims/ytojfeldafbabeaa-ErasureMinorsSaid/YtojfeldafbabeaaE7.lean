/- The walk of the law ErasureMinors. -/
import Derived.Test.YtojfeldafbabeaaTw
import Derived.Test.YtojfeldafbabeaaPm
import Derived.Test.YtojfeldafbabeaaI3
set_option linter.unusedVariables false
set_option linter.unusedSimpArgs false
set_option linter.unnecessarySimpa false
namespace Go.Proofs.Ytojfeldafbabeaa
open Go.RowKit Go.Mem Go.Deep

def MinL (w : World) (j : Nat) (vr vc : Value) (wr : World) : Prop := ∃ rs cs : List Nat, Two wr w.heap.size vr vc rs cs ∧ Below w.heap.size w wr ∧ rs.length ≤ 8 ∧ cs.length ≤ 8 ∧ rs.Pairwise (· < ·) ∧ cs.Pairwise (· < ·) ∧ (∀ x ∈ rs, x < j) ∧ (∀ x ∈ cs, x < j)
theorem pw_snoc {l : List Nat} {j : Nat} (hp : l.Pairwise (· < ·)) (h : ∀ x ∈ l, x < j) : (l ++ [j]).Pairwise (· < ·) := by
  rw [List.pairwise_append]
  exact ⟨hp, by simp, fun a ha b hb => by simp at hb; subst hb; exact h a ha⟩
theorem lt_snoc {l : List Nat} {j : Nat} (h : ∀ x ∈ l, x < j) : ∀ x ∈ l ++ [j], x < j + 1 := fun x hx => by
  rcases List.mem_append.1 hx with hx | hx
  · have := h x hx; omega
  · simp at hx; omega
theorem lt_more {l : List Nat} {j : Nat} (h : ∀ x ∈ l, x < j) : ∀ x ∈ l, x < j + 1 := fun x hx => by have := h x hx; omega

set_option maxRecDepth 100000 in
set_option maxHeartbeats 4000000 in
theorem minors_law (R C : Int) (w : World) (hR : 0 ≤ R) (hC : 0 ≤ C) : Calls Try.prog 7 #[.int .u64 R, .int .u64 C] w (Yes w) := by
  go_enter Try.func7, Try.ntmps7
  go_wp2_with fail
  go_loopw [5, 6, 7] (fun vr vc i wr => ∃ j : Nat, j ≤ 64 ∧ i = .int .i64 j ∧ MinL w j vr vc wr) (fun _ _ i _ => 64 - (intOf i).toNat)
  case atStart => exact ⟨0, by omega, rfl, [], [], Two.nil _ _, Below.refl _ _, by simp, by simp, List.Pairwise.nil, List.Pairwise.nil, by simp, by simp⟩
  case round =>
    rename World => wr
    obtain ⟨j, hj, rfl, rs, cs, htw, hbr, hr8, hc8, hrp, hcp, hrl, hcl⟩ := hrel
    have HT := Lib.hid htw
    have HB := Lib.hid hbr
    have HRP := Lib.hid hrp
    have HCP := Lib.hid hcp
    have HRL := Lib.hid hrl
    have HCL := Lib.hid hcl
    have hgr := hbr.size
    obtain ⟨ra, rcap, hvr⟩ : ∃ a cap, u5 = .slice a rs.length cap := by
      rcases htw.left.2 with ⟨h, h0⟩ | ⟨g, cap, cur, h, _⟩
      · exact ⟨none, 0, by rw [h, h0]⟩
      · exact ⟨_, _, h⟩
    obtain ⟨ca, ccap, hvc⟩ : ∃ a cap, u6 = .slice a cs.length cap := by
      rcases htw.right.2 with ⟨h, h0⟩ | ⟨g, cap, cur, h, _⟩
      · exact ⟨none, 0, by rw [h, h0]⟩
      · exact ⟨_, _, h⟩
    subst hvr hvc
    obtain ⟨nr, hnr⟩ : ∃ n, n = rs.length := ⟨_, rfl⟩
    obtain ⟨nc, hnc⟩ : ∃ n, n = cs.length := ⟨_, rfl⟩
    rw [← hnr] at HT hr8 ⊢
    rw [← hnc] at HT hc8 ⊢
    have HNR := Lib.hid hnr
    have HNC := Lib.hid hnc
    clear htw hbr hrp hcp hrl hcl hnr hnc
    by_cases hj64 : j < 64
    · have hmj : (j : Int) % 18446744073709551616 = j := by omega
      by_cases hr7 : nr < 8
      · have hd1 : decide ((nr : Int) < 8) = true := by simp; omega
        by_cases hc7 : nc < 8
        · have hd2 : decide ((nc : Int) < 8) = true := by simp; omega
          go_wp2_with (first | (at_builtin; refine app_left (w0 := w) (B := w.heap.size) (i := j) rfl (.tmp 30) (.tmp 32) rfl HT.out (by have := HNR.out; omega) HB.out hgr rfl rfl ?_; intro v5 w5 h5; have hg5 := h5.out.2.size) | (at_builtin; refine app_right (w0 := w) (B := w.heap.size) (i := j) rfl (.tmp 45) (.tmp 47) rfl h5.out.1 (by have := HNC.out; omega) h5.out.2 hg5 rfl rfl ?_; intro v6 w6 h6) | (at_builtin; refine app_right (w0 := w) (B := w.heap.size) (i := j) rfl (.tmp 45) (.tmp 47) rfl HT.out (by have := HNC.out; omega) HB.out hgr rfl rfl ?_; intro v6 w6 h6))
          all_goals go_roundw
          all_goals first | (simp [intOf]; omega) | exact ⟨j + 1, by omega, by go_num, _, _, h6.out.1, h6.out.2, by have := HNR.out; simp; omega, by have := HNC.out; simp; omega, pw_snoc HRP.out HRL.out, pw_snoc HCP.out HCL.out, lt_snoc HRL.out, lt_snoc HCL.out⟩ | exact ⟨j + 1, by omega, by go_num, _, _, h6.out.1, h6.out.2, by have := HNR.out; omega, by have := HNC.out; simp; omega, HRP.out, pw_snoc HCP.out HCL.out, lt_more HRL.out, lt_snoc HCL.out⟩ | exact ⟨j + 1, by omega, by go_num, _, _, h5.out.1, h5.out.2, by have := HNR.out; simp; omega, by have := HNC.out; omega, pw_snoc HRP.out HRL.out, HCP.out, lt_snoc HRL.out, lt_more HCL.out⟩ | exact ⟨j + 1, by omega, by go_num, _, _, HT.out, HB.out, by have := HNR.out; omega, by have := HNC.out; omega, HRP.out, HCP.out, lt_more HRL.out, lt_more HCL.out⟩
        · have hd2 : decide ((nc : Int) < 8) = false := by simp; omega
          go_wp2_with (first | (at_builtin; refine app_left (w0 := w) (B := w.heap.size) (i := j) rfl (.tmp 30) (.tmp 32) rfl HT.out (by have := HNR.out; omega) HB.out hgr rfl rfl ?_; intro v5 w5 h5; have hg5 := h5.out.2.size) | (at_builtin; refine app_right (w0 := w) (B := w.heap.size) (i := j) rfl (.tmp 45) (.tmp 47) rfl h5.out.1 (by have := HNC.out; omega) h5.out.2 hg5 rfl rfl ?_; intro v6 w6 h6) | (at_builtin; refine app_right (w0 := w) (B := w.heap.size) (i := j) rfl (.tmp 45) (.tmp 47) rfl HT.out (by have := HNC.out; omega) HB.out hgr rfl rfl ?_; intro v6 w6 h6))
          all_goals go_roundw
          all_goals first | (simp [intOf]; omega) | exact ⟨j + 1, by omega, by go_num, _, _, h6.out.1, h6.out.2, by have := HNR.out; simp; omega, by have := HNC.out; simp; omega, pw_snoc HRP.out HRL.out, pw_snoc HCP.out HCL.out, lt_snoc HRL.out, lt_snoc HCL.out⟩ | exact ⟨j + 1, by omega, by go_num, _, _, h6.out.1, h6.out.2, by have := HNR.out; omega, by have := HNC.out; simp; omega, HRP.out, pw_snoc HCP.out HCL.out, lt_more HRL.out, lt_snoc HCL.out⟩ | exact ⟨j + 1, by omega, by go_num, _, _, h5.out.1, h5.out.2, by have := HNR.out; simp; omega, by have := HNC.out; omega, pw_snoc HRP.out HRL.out, HCP.out, lt_snoc HRL.out, lt_more HCL.out⟩ | exact ⟨j + 1, by omega, by go_num, _, _, HT.out, HB.out, by have := HNR.out; omega, by have := HNC.out; omega, HRP.out, HCP.out, lt_more HRL.out, lt_more HCL.out⟩
      · have hd1 : decide ((nr : Int) < 8) = false := by simp; omega
        by_cases hc7 : nc < 8
        · have hd2 : decide ((nc : Int) < 8) = true := by simp; omega
          go_wp2_with (first | (at_builtin; refine app_left (w0 := w) (B := w.heap.size) (i := j) rfl (.tmp 30) (.tmp 32) rfl HT.out (by have := HNR.out; omega) HB.out hgr rfl rfl ?_; intro v5 w5 h5; have hg5 := h5.out.2.size) | (at_builtin; refine app_right (w0 := w) (B := w.heap.size) (i := j) rfl (.tmp 45) (.tmp 47) rfl h5.out.1 (by have := HNC.out; omega) h5.out.2 hg5 rfl rfl ?_; intro v6 w6 h6) | (at_builtin; refine app_right (w0 := w) (B := w.heap.size) (i := j) rfl (.tmp 45) (.tmp 47) rfl HT.out (by have := HNC.out; omega) HB.out hgr rfl rfl ?_; intro v6 w6 h6))
          all_goals go_roundw
          all_goals first | (simp [intOf]; omega) | exact ⟨j + 1, by omega, by go_num, _, _, h6.out.1, h6.out.2, by have := HNR.out; simp; omega, by have := HNC.out; simp; omega, pw_snoc HRP.out HRL.out, pw_snoc HCP.out HCL.out, lt_snoc HRL.out, lt_snoc HCL.out⟩ | exact ⟨j + 1, by omega, by go_num, _, _, h6.out.1, h6.out.2, by have := HNR.out; omega, by have := HNC.out; simp; omega, HRP.out, pw_snoc HCP.out HCL.out, lt_more HRL.out, lt_snoc HCL.out⟩ | exact ⟨j + 1, by omega, by go_num, _, _, h5.out.1, h5.out.2, by have := HNR.out; simp; omega, by have := HNC.out; omega, pw_snoc HRP.out HRL.out, HCP.out, lt_snoc HRL.out, lt_more HCL.out⟩ | exact ⟨j + 1, by omega, by go_num, _, _, HT.out, HB.out, by have := HNR.out; omega, by have := HNC.out; omega, HRP.out, HCP.out, lt_more HRL.out, lt_more HCL.out⟩
        · have hd2 : decide ((nc : Int) < 8) = false := by simp; omega
          go_wp2_with (first | (at_builtin; refine app_left (w0 := w) (B := w.heap.size) (i := j) rfl (.tmp 30) (.tmp 32) rfl HT.out (by have := HNR.out; omega) HB.out hgr rfl rfl ?_; intro v5 w5 h5; have hg5 := h5.out.2.size) | (at_builtin; refine app_right (w0 := w) (B := w.heap.size) (i := j) rfl (.tmp 45) (.tmp 47) rfl h5.out.1 (by have := HNC.out; omega) h5.out.2 hg5 rfl rfl ?_; intro v6 w6 h6) | (at_builtin; refine app_right (w0 := w) (B := w.heap.size) (i := j) rfl (.tmp 45) (.tmp 47) rfl HT.out (by have := HNC.out; omega) HB.out hgr rfl rfl ?_; intro v6 w6 h6))
          all_goals go_roundw
          all_goals first | (simp [intOf]; omega) | exact ⟨j + 1, by omega, by go_num, _, _, h6.out.1, h6.out.2, by have := HNR.out; simp; omega, by have := HNC.out; simp; omega, pw_snoc HRP.out HRL.out, pw_snoc HCP.out HCL.out, lt_snoc HRL.out, lt_snoc HCL.out⟩ | exact ⟨j + 1, by omega, by go_num, _, _, h6.out.1, h6.out.2, by have := HNR.out; omega, by have := HNC.out; simp; omega, HRP.out, pw_snoc HCP.out HCL.out, lt_more HRL.out, lt_snoc HCL.out⟩ | exact ⟨j + 1, by omega, by go_num, _, _, h5.out.1, h5.out.2, by have := HNR.out; simp; omega, by have := HNC.out; omega, pw_snoc HRP.out HRL.out, HCP.out, lt_snoc HRL.out, lt_more HCL.out⟩ | exact ⟨j + 1, by omega, by go_num, _, _, HT.out, HB.out, by have := HNR.out; omega, by have := HNC.out; omega, HRP.out, HCP.out, lt_more HRL.out, lt_more HCL.out⟩
    · obtain rfl : j = 64 := by omega
      simp only [show ((64 : Nat) : Int) = 64 from rfl]
      clear hj hj64
      obtain ⟨n, hnd⟩ : ∃ n, n = if nc < nr then nc else nr := ⟨_, rfl⟩
      have hmin : (if nc < nr then (nc : Int) else (nr : Int)) = (n : Int) := by rw [hnd]; split <;> rfl
      have hn1 : n ≤ nr ∧ n ≤ nc := by rw [hnd]; split <;> omega
      obtain ⟨hnr2, hnc2⟩ := hn1
      have hn8 : n ≤ 8 := by omega
      clear hnd
      by_cases hn0 : n = 0
      · have hd : ((n : Int) == 0) = true := by subst hn0; rfl
        clear hn0
        go_wp2_with (go_at_call 12; refine (awake_any _).mono ?_; rintro e wa ⟨rfl, hba⟩; have HBA := Lib.hid hba; clear hba)
        go_ret
        exact ⟨rfl, HB.out.trans (HBA.out.mono hgr)⟩
      · have hd : ((n : Int) == 0) = false := by rw [beq_eq_false_iff_ne]; omega
        have hT := HT.out
        rw [HNR.out, HNC.out] at hT
        obtain ⟨rg, rcap2, he1, hrg, hrcell⟩ := hT.cellL (by have := HNR.out; omega)
        obtain ⟨cg, ccap2, he2, hcg, hccell⟩ := hT.swap.cellL (by have := HNC.out; omega)
        rw [← HNR.out] at he1
        rw [← HNC.out] at he2
        cases he1
        cases he2
        have HRC := Lib.hid hrcell
        have HCC := Lib.hid hccell
        obtain ⟨i5, hi5, hz50, hz51, hz52⟩ := info_parts info5
        clear hT hrcell hccell
        go_wp2_with fail
        go_loopw [9, 10] (fun v i w4 => ∃ (p : Nat) (vs : List Value), p ≤ n ∧ i = .int .i64 p ∧ Below wr.heap.size wr w4 ∧ RowsO w4 wr.heap.size 31 5 v vs (minorTo rs cs n p)) (fun _ i _ => n - (intOf i).toNat)
        case atStart => exact ⟨0, [], by omega, rfl, Below.refl _ _, RowsO.nil _ _ _ _⟩
        case round =>
          rename World => w4
          obtain ⟨p, vs, hp, rfl, hb4, hrow⟩ := hrel
          have HB4 := Lib.hid hb4
          have HR := Lib.hid hrow
          have hg4 := hb4.size
          clear hb4 hrow
          by_cases hpn : p < n
          · go_wp2_with fail
            go_loopw [11, 12] (fun v i wq => ∃ t : Nat, t ≤ n ∧ i = .int .i64 t ∧ Below w4.heap.size w4 wq ∧ wq.ownsRow w4.heap.size 5 1 v t (u8s (minorRow rs cs t p))) (fun _ i _ => n - (intOf i).toNat)
            case atStart => exact ⟨0, by omega, rfl, Below.refl _ _, World.ownsRow_nil _ _ _ _⟩
            case round =>
              rename World => wq
              obtain ⟨t, ht, rfl, hbq, hoq⟩ := hrel
              have HBQ := Lib.hid hbq
              have HOQ := Lib.hid hoq
              have hgq := hbq.size
              clear hbq hoq
              by_cases htn : t < n
              · obtain ⟨x, hx⟩ : ∃ x, x = rs.getD p 0 := ⟨_, rfl⟩
                obtain ⟨y, hy⟩ : ∃ y, y = cs.getD t 0 := ⟨_, rfl⟩
                have hxc := HRC.out p (by have := HNR.out; omega)
                have hyc := HCC.out t (by have := HNC.out; omega)
                rw [← hx] at hxc
                rw [← hy] at hyc
                obtain ⟨z, hz⟩ : ∃ z, z = coefI (x : Int) (y : Int) := ⟨_, rfl⟩
                have HZ := Lib.hid (show minorRow rs cs (t + 1) p = minorRow rs cs t p ++ [z] by rw [minorRow_succ, hz, hx, hy])
                have hcall : Hid (∀ w0 : World, Calls Try.prog 16 #[.int .i64 x, .int .i64 y] w0 fun e w' => e = .returned (.int .u8 (z : Int)) ∧ w0 = w') := Lib.hid fun w0 => by rw [hz]; exact coef_any x y w0
                have HXC := Lib.hid hxc
                have HYC := Lib.hid hyc
                clear hx hy hz hxc hyc
                have hpr : p < nr := by omega
                have htc : t < nc := by omega
                go_wp2_with fail
                refine wp_region_order (fun w' => Below w4.heap.size w4 w') (fun w' => Below w4.heap.size w4 w' ∧ w'.ownsRow w4.heap.size 5 1 u11 t (u8s (minorRow rs cs t p))) [(0, false), (1, false), (2, false), (3, false), (4, false), (5, false), (6, false), (7, false), (8, false), (9, false), (10, true), (11, true), (12, false)] (by kernel_rfl) (by kernel_rfl) rfl (by kernel_rfl) (fun wa wb h hb => ⟨h.1.trans (hb.mono h.1.size), ownsRow_of_below h.2 hb⟩) (fun _ h => h.1) ⟨HBQ.out, HOQ.out⟩ ?_
                repeat (apply oRow_plain
                        · exact rfl
                        · exact rfl
                        · intro wg hg
                          have hc := (fun wg (hg : Below w4.heap.size w4 wg) => And.intro ((hg.cell (p := ⟨rg, p, none⟩) (by show rg < w4.heap.size; omega)).trans ((HB4.out.cell (p := ⟨rg, p, none⟩) hrg).trans HXC.out)) ((hg.cell (p := ⟨cg, t, none⟩) (by show cg < w4.heap.size; omega)).trans ((HB4.out.cell (p := ⟨cg, t, none⟩) hcg).trans HYC.out))) wg hg
                          go_simp
                          first
                            | exact rfl
                            | exact ⟨Below.refl _ _, rfl⟩
                            | ((exact (hcall.out _).mono fun e w' h => ⟨h.1, by rw [← h.2]; exact Below.refl _ _⟩))
                        intro K hK
                        go_simp
                        refine hK _ ?_
                        clear hK K)
                refine oRow_step (fun u w' => (∃ b, u = .slice (some ⟨b, 0, none⟩) 1 1 ∧ w'.cell? ⟨b, 0, none⟩ = some (.int .u8 (z : Int)) ∧ b < w'.heap.size) ∧ Below w4.heap.size w4 w' ∧ w'.ownsRow w4.heap.size 5 1 u11 t (u8s (minorRow rs cs t p))) rfl rfl (fun u wa wb h hb => ⟨by obtain ⟨b, h1, h2, h3⟩ := h.1; exact ⟨b, h1, (hb.cell (p := ⟨b, 0, none⟩) h3).trans h2, Nat.lt_of_lt_of_le h3 hb.size⟩, h.2.1.trans (hb.mono h.2.1.size), ownsRow_of_below h.2.2 hb⟩) (fun _ _ h => h.2.1) ?_ ?_
                · intro wg hg
                  go_simp
                  have hb1 : Below wg.heap.size wg (wg.alloc (.cells #[.int .u8 (z : Int)] 5)) := (Below.refl _ _).alloc (Nat.le_refl _) _
                  exact ⟨hg.1.trans (hb1.mono hg.1.size), ownsRow_of_below hg.2 hb1⟩
                rintro _ ⟨wv, ⟨b0, rfl, _, _⟩, _⟩ K hK
                go_simp
                refine hK _ ?_
                clear hK K
                refine oRow_step (fun u w' => Below w4.heap.size w4 w' ∧ w'.ownsRow w4.heap.size 5 1 u (t + 1) (u8s (minorRow rs cs (t + 1) p))) rfl rfl (fun u wa wb h hb => ⟨h.1.trans (hb.mono h.1.size), ownsRow_of_below h.2 hb⟩) (fun _ _ h => h.1) ?_ ?_
                · rintro wg ⟨⟨b1, he, hcb, _⟩, hgb, hgo⟩
                  cases he
                  refine sUpon_append (.tmp 67) (.tmp 77) 31 rfl w4.heap.size 5 i5 (.int .u8 0) 1 1 Try.underlying31 hi5 hz50 hz51 hz52 rfl (by decide) u11 t _ rfl hgo ⟨b0, 0, none⟩ 1 1 [.int .u8 (z : Int)] rfl rfl (by
                    intro j u hj
                    match j, hj with
                    | 0, hj => simp at hj; subst hj; simpa [Addr.add] using hcb
                    | j + 1, hj => simp at hj) (by intro u hu; simp at hu; subst hu; rfl) (by unfold maxLen; omega) (by omega) hgb.size ?_
                  intro v' w' h2 h3
                  exact ⟨hgb.grown h3 hgb.size (fun b hb => (hgo.lt b hb).1), by rw [HZ.out]; simpa [u8s] using h2⟩
                rintro v8 ⟨wv8, _⟩ K hK
                go_simp
                refine hK _ ?_
                clear hK K
                repeat (apply oRow_plain
                        · exact rfl
                        · exact rfl
                        · intro wg hg
                          have hc := (fun wg (hg : Below w4.heap.size w4 wg) => hg) wg hg
                          go_simp
                          first
                            | exact rfl
                            | exact ⟨Below.refl _ _, rfl⟩
                            | ((fail))
                        intro K hK
                        go_simp
                        refine hK _ ?_
                        clear hK K)
                refine oRow_nil ?_
                rintro w6 ⟨hb6, ho6⟩
                have H6 := Lib.hid (And.intro hb6 ho6)
                clear hb6 ho6
                go_wp2_with fail
                go_roundw
                case rel => exact ⟨t + 1, by omega, by go_num, H6.out.1, H6.out.2⟩
                case measure => simp [intOf]; omega
              · obtain rfl : t = n := by omega
                have hgr4 : wr.heap.size ≤ wq.heap.size := by omega
                have hkept : ∃ g cap, u11 = .slice (some ⟨g, 0, none⟩) t cap ∧ Kept wq wr.heap.size 5 (.slice (some ⟨g, 0, none⟩) t cap) (minorRow rs cs t p) := by
                  have ho := HOQ.out
                  obtain ⟨g, cap, hv, h1, h2, h3, h4⟩ := ownT_of_ownsRow ho (by omega)
                  have h5 := h4.congr (g := fun j => .int .u8 (((minorRow rs cs t p).getD j 0 : Nat) : Int)) (fun j hj => by simp [u8s, show j < (minorRow rs cs t p).length by rw [minorRow_len]; exact hj])
                  have h6 := h5
                  obtain ⟨cc, hcc, _⟩ := h6
                  exact ⟨g, cap, hv, Kept.fresh (h5.own.bytes (minorRow_len _ _ _ _) (fun i _ => rfl) h2 h3 (by omega) (minorRow_lt _ _ _ _)) rfl hcc⟩
                obtain ⟨g, cap, rfl, hkp⟩ := hkept
                have HKP := Lib.hid hkp
                clear hkp
                go_wp2_with (at_builtin; refine app_row' (w0 := wr) (W := wq) rfl (.tmp 79) (.tmp 81) rfl (l := minorRow rs cs t p) p (HR.out.below HBQ.out) (minorTo_len _ _ _ _) (by omega) HKP.out (HB4.out.trans (HBQ.out.mono hg4)) hgr4 (by rfl) rfl rfl ?_; intro v' w6 h6)
                go_roundw
                case rel => exact ⟨p + 1, _, by omega, by go_num, h6.out.2.1, by rw [minorTo_succ]; exact h6.out.1⟩
                case measure => simp [intOf]; omega
          · obtain rfl : p = n := by omega
            have hmat := HR.out.mat (by rw [minorTo_len]; omega)
            have HM := Lib.hid hmat
            have hok := minor_ok (n := p) HRP.out HCP.out HRL.out HCL.out (by have := HNR.out; omega) (by have := HNC.out; omega)
            obtain ⟨u, hu⟩ := hok
            have HU := Lib.hid hu
            clear hmat hu
            go_wp2_with (first | (go_at_call 21; refine (invert_sq (minorTo rs cs p p) p _ _ HM.out (minorTo_len _ _ _ _) (by omega) (by omega) (fun i hi => by rw [minorTo_at _ _ _ _ hi, minorRow_len])).mono ?_; rintro e wI (⟨u', vi, hu', rfl, hm', hb'⟩ | ⟨hu', _⟩); ((obtain ⟨va, vcap, hv, _⟩ := hm'.open); subst hv; (have hol : (outRows p u').length = p := by simp [outRows]); rw [hol]; have HBI := Lib.hid hb'; clear hu' hm' hb' hol); rotate_left 1; (exfalso; rw [HU.out] at hu'; cases hu')) | (go_at_call 12; refine (awake_any _).mono ?_; rintro e wa ⟨rfl, hba⟩; have HBA := Lib.hid hba; clear hba))
            go_ret
            have g1 := HB4.out.size
            have g2 := HBI.out.size
            exact ⟨rfl, ((HB.out.trans (HB4.out.mono hgr)).trans (HBI.out.mono (by omega))).trans (HBA.out.mono (by omega))⟩
end Go.Proofs.Ytojfeldafbabeaa
