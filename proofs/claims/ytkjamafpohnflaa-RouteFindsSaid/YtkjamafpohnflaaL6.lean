/- The walk of RouteFinds. -/
import Derived.Test.YtkjamafpohnflaaL5
set_option linter.unusedVariables false
set_option linter.unusedSimpArgs false
set_option linter.unnecessarySimpa false
namespace Go.Proofs.Ytkjamafpohnflaa
open Go Go.RowKit Go.Mem Go.Deep

def MadeO (w : World) (T : List Int) (n : Nat) (e : Ending) (w' : World) : Prop := ∃ p cap, e = .returned (.slice p n cap) ∧ Own w w' (.slice p n cap) T
theorem made_at (v : Value) (l : List Int) (h64 : ∀ x ∈ l, In64 x) : ∃ T n, T.length = n ∧ n ≤ 40 ∧ 1 ≤ n ∧ ∀ w, IntsAt w v l → Calls Try.prog 9 #[v] w (MadeO w T n) :=
  ⟨madeN (fun i => l.getD i 0) (min l.length 39), min l.length 39 + 1, len_made _ _, by omega, by omega, fun w h => made_own v l w h h64⟩
theorem within_ex {n : Nat} (h1 : 1 ≤ n) (h2 : n ≤ 100) (q : Int) (hq : In64 q) : ∃ k : Int, 0 ≤ k ∧ k < n ∧ ∀ w, Hid (Calls Try.prog 10 #[.int .i64 q, .int .i64 (n : Int)] w fun e w' => e = .returned (.int .i64 k) ∧ w = w') :=
  ⟨q % (n : Int), Int.emod_nonneg q (by omega), Int.emod_lt_of_pos q (by omega), fun w => within_any q (n : Int) w (by omega) (by omega) hq.1 hq.2⟩
theorem getD_set {α : Type} {l : List α} {i j : Nat} {z d : α} (hi : i < l.length) : (l.set i z).getD j d = if j = i then z else l.getD j d := by
  rw [List.getD_eq_getElem?_getD, List.getD_eq_getElem?_getD, List.getElem?_set]
  by_cases e : i = j
  · subst e; simp [hi]
  · rw [if_neg e, if_neg (fun h => e h.symm)]


set_option maxRecDepth 20000 in
set_option maxHeartbeats 16000000 in
theorem finds_law (vl vr vf vp : Value) (l lr lf : List Int) (lp : List (Int × Int)) (a b : Int) (near : Bool) (w : World) (hl : IntsAt w vl l) (hr : IntsAt w vr lr) (hf : IntsAt w vf lf) (hp : PairsAt w vp lp) (h64 : ∀ x ∈ l, In64 x) (hf64 : ∀ x ∈ lf, In64 x) (hp64 : ∀ p ∈ lp, In64 p.1 ∧ In64 p.2) (ha : In64 a) (hb : In64 b) :
    Calls Try.prog 7 #[vl, vr, .int .i64 a, .int .i64 b, vf, vp, .bool near] w fun e w' => e = .returned (.bool true) ∧ Below w.heap.size w w' := by
  obtain ⟨ra, rcap, rfl, hrl⟩ := hr.open
  obtain ⟨fa, fcap, rfl, hfl⟩ := hf.open
  obtain ⟨pa, pcap, rfl⟩ := hp.open
  obtain ⟨nr, hnr⟩ : ∃ m, lr.length = m := ⟨_, rfl⟩
  obtain ⟨m, hm⟩ : ∃ m, lf.length = m := ⟨_, rfl⟩
  obtain ⟨m2, hm2⟩ : ∃ m, lp.length = m := ⟨_, rfl⟩
  have HSU := Lib.hid (ints_src hf)
  rw [hnr] at hrl hr ⊢
  rw [hm] at hfl hf HSU ⊢
  rw [hm2] at hp ⊢
  by_cases hg : 80 < nr ∨ 20 < m ∨ 20 < m2
  · have hg' : decide ((80 : Int) < (nr : Int)) = true ∨ (decide ((80 : Int) < (nr : Int)) = false ∧ decide ((20 : Int) < (m : Int)) = true) ∨ (decide ((80 : Int) < (nr : Int)) = false ∧ decide ((20 : Int) < (m : Int)) = false ∧ decide ((20 : Int) < (m2 : Int)) = true) := by
      by_cases q : 80 < nr
      · left; simp; omega
      · right
        by_cases q2 : 20 < m
        · left; constructor <;> (simp; omega)
        · right; refine ⟨?_, ?_, ?_⟩ <;> (simp; omega)
    clear hg hl hr hf hp h64 hf64 hp64 ha hb hnr hm hm2 HSU
    rcases hg' with q | ⟨q, q2⟩ | ⟨q, q2, q3⟩
    all_goals
      go_enter Try.func7, Try.ntmps7
      go_wp2_with (first
        | (go_at_call 14; (with_reducible refine (awake_any _).mono ?_); rintro e w7 ⟨rfl, hb7⟩; have HB7 := Lib.hid hb7; clear hb7))
      go_ret
      exact ⟨rfl, HB7.out⟩
  have q1 : decide ((80 : Int) < (nr : Int)) = false := by simp; omega
  have q2 : decide ((20 : Int) < (m : Int)) = false := by simp; omega
  have q3 : decide ((20 : Int) < (m2 : Int)) = false := by simp; omega
  have hm20 : m ≤ 20 := by omega
  have hm220 : m2 ≤ 20 := by omega
  have HR := Lib.hid hr
  have HLL := Lib.hid hl
  have HPP := Lib.hid hp
  have HNR := Lib.hid hnr
  have HUL0 := Lib.hid hm
  have HPL0 := Lib.hid hm2
  have HAS := Lib.hid (AS.start w 3 1)
  cases near with
  | false =>
    clear hg hl hr hf hp h64 hf64 hp64 ha hb hnr hm hm2
    obtain ⟨T, rfl⟩ : ∃ z, z = lr := ⟨_, rfl⟩
    obtain ⟨U, rfl⟩ : ∃ z, z = lf := ⟨_, rfl⟩
    obtain ⟨P, rfl⟩ : ∃ z, z = lp := ⟨_, rfl⟩
    obtain ⟨tp, rfl⟩ : ∃ z, z = ra := ⟨_, rfl⟩
    obtain ⟨tc, rfl⟩ : ∃ z, z = rcap := ⟨_, rfl⟩
    obtain ⟨n, rfl⟩ : ∃ z, z = nr := ⟨_, rfl⟩
    have HUL := Lib.hid HUL0.out
    have HPL := Lib.hid HPL0.out
    clear HUL0 HPL0 HLL HNR
    go_enter Try.func7, Try.ntmps7
    go_wp2_with (first
      | (at_builtin; refine wpList_app elt22 _ _ rfl rfl rfl rfl HAS.out HSU.out (by omega) ?_; intro u w1 HA1; obtain ⟨up, uc, rfl⟩ := owns_val HA1.out.row; rw [Nat.zero_add] at HA1 ⊢; have HAS1 := Lib.hid (AS.start w1 47 2); have HSP := Lib.hid (HPL.out ▸ pairs_src (HPP.out.keep HA1.out.below)))
      | (at_builtin; refine wpList_pair _ _ rfl rfl rfl rfl HAS1.out HSP.out (by omega) ?_; intro pp pc w2 HX; rw [Nat.zero_add] at HX ⊢))
    have HFD := Lib.hid (show Fd (.slice tp n tc) (.slice up m uc) (.slice pp m2 pc) T U P w2 from
      ⟨(HR.out.keep HA1.out.below).keep HX.out.below, (ints_of_owns (l := U) (by rw [HUL.out]; exact HA1.out.row) (by rw [HUL.out]; omega)).keep HX.out.below, pairs_of_owns (by rw [HPL.out]; exact HX.out.row) (by rw [HPL.out]; omega)⟩)
    have HBW := Lib.hid (HA1.out.below.trans (HX.out.below.mono HA1.out.below.size))
    clear HAS HAS1 HSP HA1 HX HSU HR HPP
    (
      obtain ⟨mm, c1, hM⟩ := meet_both T a b
      obtain ⟨L2, n2, c2, hP2⟩ := path_both T a b
      obtain ⟨L3, n3, c3, hU3⟩ := union_both T U a (by rw [HUL.out]; omega)
      obtain ⟨L4, n4, c4, hL4⟩ := loads_both T P (by rw [HPL.out]; omega)
      obtain ⟨cc, hcc⟩ : ∃ cc, codeOf T = cc := ⟨_, rfl⟩
      have KM := Lib.hid (hM (.slice tp n tc))
      have KP := Lib.hid (hP2 (.slice tp n tc))
      have KU := Lib.hid (hU3 (.slice tp n tc) (.slice up m uc))
      have KL := Lib.hid (hL4 (.slice tp n tc) (.slice pp m2 pc))
      have K23 := fun w (h : IntsAt w (.slice tp n tc) T) => Lib.hid (show Calls Try.prog 23 #[.slice tp n tc] w (fun e w' => e = .returned (.int .i64 cc) ∧ w = w') from hcc ▸ check23_any _ T w h)
      have K24 := fun w (h : IntsAt w (.slice tp n tc) T) => Lib.hid (show Calls Try.prog 24 #[.slice tp n tc] w (fun e w' => e = .returned (.int .i64 cc) ∧ w = w') from hcc ▸ check24_any _ T w h)
      clear hM hP2 hU3 hL4 hcc
      go_wp2_with (first
        | (go_at_call 15; (with_reducible refine (KM.out.1 _ HFD.out.t).mono ?_); rintro e w2 ⟨rfl, hb⟩; have F2 := Lib.hid (HFD.out.keep hb); have B2 := Lib.hid (HBW.out.trans (hb.mono HBW.out.size)); clear hb)
        | (go_at_call 21; (with_reducible refine (KM.out.2 _ F2.out.t).mono ?_); rintro e w3 ⟨rfl, hb⟩; have F3 := Lib.hid (F2.out.keep hb); have B3 := Lib.hid (B2.out.trans (hb.mono B2.out.size)); clear hb)
        | (go_at_call 11; (with_reducible refine (KP.out.1 _ F3.out.t).mono ?_); rintro e w4 ⟨ap, ac, rfl, hI, hb⟩; have I4 := Lib.hid hI; have F4 := Lib.hid (F3.out.keep hb); have B4 := Lib.hid (B3.out.trans (hb.mono B3.out.size)); clear hI hb)
        | (go_at_call 22; (with_reducible refine (KP.out.2 _ F4.out.t).mono ?_); rintro e w5 ⟨bp, bc, rfl, hI, hb⟩; have J4 := Lib.hid (I4.out.keep hb); have I5 := Lib.hid hI; have F5 := Lib.hid (F4.out.keep hb); have B5 := Lib.hid (B4.out.trans (hb.mono B4.out.size)); clear hI hb)
        | (go_at_call 23; (with_reducible refine (K23 _ F5.out.t).out.mono ?_); rintro e wx ⟨rfl, rfl⟩)
        | (go_at_call 24; (with_reducible refine (K24 _ F5.out.t).out.mono ?_); rintro e wx ⟨rfl, rfl⟩)
        | (go_at_call 12; (with_reducible refine (same_as J4.out I5.out).mono ?_); rintro e w6 ⟨rfl, hb⟩; have F6 := Lib.hid (F5.out.keep hb); have B6 := Lib.hid (B5.out.trans (hb.mono B5.out.size)); clear hb J4)
        | (go_at_call 25; (with_reducible refine (KU.out.1 _ F6.out.t F6.out.u).mono ?_); rintro e w7 ⟨ep, ec, rfl, hI, hb⟩; have I7 := Lib.hid hI; have F7 := Lib.hid (F6.out.keep hb); have B7 := Lib.hid (B6.out.trans (hb.mono B6.out.size)); clear hI hb)
        | (go_at_call 26; (with_reducible refine (KU.out.2 _ F7.out.t F7.out.u).mono ?_); rintro e w8 ⟨fp, fc, rfl, hI, hb⟩; have J7 := Lib.hid (I7.out.keep hb); have I8 := Lib.hid hI; have F8 := Lib.hid (F7.out.keep hb); have B8 := Lib.hid (B7.out.trans (hb.mono B7.out.size)); clear hI hb)
        | (go_at_call 12; (with_reducible refine (same_as J7.out I8.out).mono ?_); rintro e w9 ⟨rfl, hb⟩; have F9 := Lib.hid (F8.out.keep hb); have B9 := Lib.hid (B8.out.trans (hb.mono B8.out.size)); clear hb J7)
        | (go_at_call 27; (with_reducible refine (KL.out.1 _ F9.out.t F9.out.p).mono ?_); rintro e wa ⟨gp, gc, rfl, hI, hb⟩; have I10 := Lib.hid hI; have F10 := Lib.hid (F9.out.keep hb); have B10 := Lib.hid (B9.out.trans (hb.mono B9.out.size)); clear hI hb)
        | (go_at_call 28; (with_reducible refine (KL.out.2 _ F10.out.t F10.out.p).mono ?_); rintro e wb ⟨hp, hc, rfl, hI, hb⟩; have J10 := Lib.hid (I10.out.keep hb); have I11 := Lib.hid hI; have B11 := Lib.hid (B10.out.trans (hb.mono B10.out.size)); clear hI hb)
        | (go_at_call 14; (with_reducible refine (awake_any _).mono ?_); rintro e wc ⟨rfl, hb⟩; have J12 := Lib.hid (J10.out.keep hb); have I12 := Lib.hid (I11.out.keep hb); have B12 := Lib.hid (B11.out.trans (hb.mono B11.out.size)); clear hb)
        | (go_at_call 12; (with_reducible refine (same_as J12.out I12.out).mono ?_); rintro e wd ⟨rfl, hb⟩; have B13 := Lib.hid (B12.out.trans (hb.mono B12.out.size)); clear hb))
      go_ret
      exact ⟨rfl, B13.out⟩)
  | true =>
    obtain ⟨T, n, hTL, hn40, hn1, hK9⟩ := made_at vl l h64
    have K9 := fun w h => Lib.hid (hK9 w h)
    obtain ⟨A, hA0, hA1, KA⟩ := within_ex hn1 (by omega) a ha
    obtain ⟨B, hB0, hB1, KB⟩ := within_ex hn1 (by omega) b hb
    have HIU := Lib.hid (show ∀ j, j < m → In64 (lf.getD j 0) from fun j hj => hf64 _ (getD_mem (by rw [HUL0.out]; exact hj)))
    have HIP := Lib.hid (show ∀ j, j < m2 → In64 (lp.getD j (0, 0)).1 ∧ In64 (lp.getD j (0, 0)).2 from fun j hj => hp64 _ (getD_memP (by rw [HPL0.out]; exact hj)))
    have HW := Lib.hid (show ∀ q : Int, In64 q → ∃ k : Int, 0 ≤ k ∧ k < n ∧ ∀ w, Hid (Calls Try.prog 10 #[.int .i64 q, .int .i64 (n : Int)] w fun e w' => e = .returned (.int .i64 k) ∧ w = w') from fun q hq => within_ex hn1 (by omega) q hq)
    have HTL := Lib.hid hTL
    clear hg hl hr hf hp h64 hf64 hp64 ha hb hnr hm hm2 HR HNR hK9 hTL
    go_enter Try.func7, Try.ntmps7
    go_wp2_with (first
      | (at_builtin; refine wpList_app elt22 _ _ rfl rfl rfl rfl HAS.out HSU.out (by omega) ?_; intro u w1 HA1; obtain ⟨up, uc, rfl⟩ := owns_val HA1.out.row; rw [Nat.zero_add] at HA1 ⊢; have HAS1 := Lib.hid (AS.start w1 47 2); have HSP := Lib.hid (HPL0.out ▸ pairs_src (HPP.out.keep HA1.out.below)))
      | (at_builtin; refine wpList_pair _ _ rfl rfl rfl rfl HAS1.out HSP.out (by omega) ?_; intro pp pc w2 HX; rw [Nat.zero_add] at HX ⊢; have HL2 := Lib.hid ((HLL.out.keep HA1.out.below).keep HX.out.below))
      | (go_at_call 9; (with_reducible refine (K9 _ HL2.out).out.mono ?_); rintro e w3 ⟨tp, tc, rfl, hown⟩; have hsz1 := HA1.out.below.size; have hsz2 := HX.out.below.size; have HN0 := Lib.hid (show Nr w w1.heap.size w2.heap.size (.slice tp n tc) (.slice up m uc) (.slice pp m2 pc) n m m2 T lf lp w3 from ⟨owns_below (owns_below HA1.out.row HX.out.below) hown.below, fun k hk => (HA1.out.row.lt k hk).2, owns_below HX.out.row hown.below, fun k hk => (HX.out.row.lt k hk).2, HTL.out ▸ hown.row, (HA1.out.below.trans (HX.out.below.mono hsz1)).trans (hown.below.mono (by omega)), hsz1, hsz2⟩); clear hown)
      | (go_at_call 10; (with_reducible refine (KA _).out.mono ?_); rintro e wx ⟨rfl, rfl⟩)
      | (go_at_call 10; (with_reducible refine (KB _).out.mono ?_); rintro e wx ⟨rfl, rfl⟩))
    obtain ⟨B1, hB1e⟩ : ∃ z, w1.heap.size = z := ⟨_, rfl⟩
    obtain ⟨B2, hB2e⟩ : ∃ z, w2.heap.size = z := ⟨_, rfl⟩
    rw [hB1e, hB2e] at HN0
    clear HAS HAS1 HSP HA1 HX HSU HL2 K9 KA KB hsz1 hsz2 HPP HLL hB1e hB2e
    have HS0 := Lib.hid (show Nr w B1 B2 (.slice tp n tc) (.slice up m uc) (.slice pp m2 pc) n m m2 T lf lp w3 ∧ lf.length = m ∧ ∀ j, j < m → In64 (lf.getD j 0) from ⟨HN0.out, HUL0.out, HIU.out⟩)
    clear HN0 HUL0 HIU
    go_loopw [18] (fun s wr => ∃ (k : Nat) (U : List Int), s = .int .i64 k ∧ k ≤ m ∧ Hid (Nr w B1 B2 (.slice tp n tc) (.slice up m uc) (.slice pp m2 pc) n m m2 T U lp wr ∧ U.length = m ∧ ∀ j, j < m → In64 (U.getD j 0))) (fun s _ => m - (intOf s).toNat)
    case atStart => exact ⟨0, lf, rfl, by omega, HS0⟩
    case round =>
      rename World => wr
      obtain ⟨k, U, rfl, hk, HV⟩ := hrel
      clear HS0
      by_cases hkm : k < m
      · obtain ⟨g, rfl, hg0, hgl, ck, fk⟩ := owns_cell HV.out.1.u HV.out.2.1 hkm
        obtain ⟨z, hz⟩ : ∃ z, U.getD k 0 = z := ⟨_, rfl⟩
        rw [hz] at ck
        obtain ⟨y, hy0, hy1, KY⟩ := HW.out z (hz ▸ HV.out.2.2 k hkm)
        have fk0 := fk k
        have HV2 := Lib.hid (show Nr w B1 B2 (.slice tp n tc) (.slice (some ⟨g, 0, none⟩) m uc) (.slice pp m2 pc) n m m2 T (U.set k y) lp (wr.setCell ⟨g, k, none⟩ (.int .i64 y)) ∧ (U.set k y).length = m ∧ ∀ j, j < m → In64 ((U.set k y).getD j 0) from
          ⟨HV.out.1.setU HV.out.2.1 hkm y, by rw [List.length_set]; exact HV.out.2.1, fun j hj => by
            rw [getD_set (by rw [HV.out.2.1]; exact hkm)]
            split
            · unfold In64; omega
            · exact HV.out.2.2 j hj⟩)
        clear hz fk
        go_wp2_with (first
          | (go_at_call 10; (with_reducible refine (KY _).out.mono ?_); rintro e wx ⟨rfl, rfl⟩))
        go_roundw
        case rel => exact ⟨k + 1, _, by go_num, by omega, HV2⟩
        case measure => simp [intOf]; omega
      · obtain rfl : k = m := by omega
        go_wp2_with fail
        have HS1 := Lib.hid (show (Nr w B1 B2 (.slice tp n tc) (.slice up k uc) (.slice pp m2 pc) n k m2 T U lp wr ∧ U.length = k) ∧ lp.length = m2 ∧ ∀ j, j < m2 → In64 (lp.getD j (0, 0)).1 ∧ In64 (lp.getD j (0, 0)).2 from ⟨⟨HV.out.1, HV.out.2.1⟩, HPL0.out, HIP.out⟩)
        clear HV HPL0 HIP
        go_loopw [19] (fun s wq => ∃ (i : Nat) (P : List (Int × Int)), s = .int .i64 i ∧ i ≤ m2 ∧ Hid ((Nr w B1 B2 (.slice tp n tc) (.slice up k uc) (.slice pp m2 pc) n k m2 T U P wq ∧ U.length = k) ∧ P.length = m2 ∧ ∀ j, j < m2 → In64 (P.getD j (0, 0)).1 ∧ In64 (P.getD j (0, 0)).2)) (fun s _ => m2 - (intOf s).toNat)
        case atStart => exact ⟨0, lp, rfl, by omega, HS1⟩
        case round =>
          rename World => wq
          obtain ⟨i, P, rfl, hi, HV⟩ := hrel
          clear HS1
          by_cases him : i < m2
          · obtain ⟨g, rfl, hg0, hgl, c0, c1, fk⟩ := owns_cell2 HV.out.1.1.p HV.out.2.1 him
            obtain ⟨x1, y1, hxy⟩ : ∃ x y, P.getD i (0, 0) = (x, y) := ⟨_, _, rfl⟩
            rw [hxy] at c0 c1
            have h64 := HV.out.2.2 i him
            rw [hxy] at h64
            obtain ⟨x2, hx0, hx1, KX⟩ := HW.out x1 h64.1
            obtain ⟨y2, hy0, hy1, KY⟩ := HW.out y1 h64.2
            have HC0 := Lib.hid c0
            have HC1 := Lib.hid c1
            have him2 : decide (i < m2) = true := by simpa using him
            clear c0 c1 hxy h64 fk
            go_wp2_with fail
            refine wp_region_grow_tail (Below wq.heap.size wq) 20 (by kernel_rfl) ?_ (Below.refl _ _).drew ?_
            · kernel_rfl
            simp only [List.take_succ_cons, List.take_zero, List.drop_succ_cons, List.drop_zero]
            repeat first
                     | (apply gRow_plain
                        · exact rfl
                        · intro wg hg
                          ((have z0 := (hg.cell (p := ⟨g, i * 2, none⟩) hgl).trans HC0.out; have z1 := (hg.cell (p := ⟨g, i * 2 + 1, none⟩) hgl).trans HC1.out))
                          go_simp
                          first
                            | exact rfl
                            | exact hg
                            | exact ⟨hg, rfl⟩
                            | ((first | ((with_reducible refine (KX _).out.mono ?_); rintro e w' ⟨rfl, rfl⟩; exact ⟨rfl, hg⟩) | ((with_reducible refine (KY _).out.mono ?_); rintro e w' ⟨rfl, rfl⟩; exact ⟨rfl, hg⟩)))
                        intro K hK
                        go_simp
                        refine hK _ ?_
                        clear hK K)
                     | (apply gRow_step
                        · go_simp; done
                        · intro wg hg
                          ((have z0 := (hg.cell (p := ⟨g, i * 2, none⟩) hgl).trans HC0.out; have z1 := (hg.cell (p := ⟨g, i * 2 + 1, none⟩) hgl).trans HC1.out))
                          go_simp
                          first
                            | exact rfl
                            | exact hg
                            | exact ⟨hg, rfl⟩
                            | ((first | ((with_reducible refine (KX _).out.mono ?_); rintro e w' ⟨rfl, rfl⟩; exact ⟨rfl, hg⟩) | ((with_reducible refine (KY _).out.mono ?_); rintro e w' ⟨rfl, rfl⟩; exact ⟨rfl, hg⟩)))
                        intro K hK
                        go_simp
                        refine hK _ ?_
                        clear hK K)
                     | (apply gRow_not
                        · go_simp; done
                        intro K hK
                        go_simp
                        refine hK _ ?_
                        clear hK K)
            refine gRow_nil ?_
            intro w5 hb5
            have HV5 := Lib.hid (HV.out.1.1.call hb5)
            obtain ⟨g2, e2, -, hgl2, c0, c1, fk⟩ := owns_cell2 HV5.out.p HV.out.2.1 him
            cases e2
            have f0 := fk (i * 2)
            have f1 := fk (i * 2 + 1)
            have HV2 := Lib.hid (show (Nr w B1 B2 (.slice tp n tc) (.slice up k uc) (.slice (some ⟨g, 0, none⟩) m2 pc) n k m2 T U (P.set i (x2, y2)) ((w5.setCell ⟨g, i * 2, none⟩ (.int .i64 x2)).setCell ⟨g, i * 2 + 1, none⟩ (.int .i64 y2)) ∧ U.length = k) ∧ (P.set i (x2, y2)).length = m2 ∧ ∀ j, j < m2 → In64 ((P.set i (x2, y2)).getD j (0, 0)).1 ∧ In64 ((P.set i (x2, y2)).getD j (0, 0)).2 from
              ⟨⟨HV5.out.setP HV.out.2.1 him x2 y2, HV.out.1.2⟩, by rw [List.length_set]; exact HV.out.2.1, fun j hj => by
                rw [getD_set (by rw [HV.out.2.1]; exact him)]
                split
                · unfold In64; dsimp only; omega
                · exact HV.out.2.2 j hj⟩)
            clear hb5 fk
            go_wp2_with fail
            go_roundw
            case rel => exact ⟨i + 1, _, by go_num, by omega, HV2⟩
            case measure => simp [intOf]; omega
          · obtain rfl : i = m2 := by omega
            have HUL := Lib.hid HV.out.1.2
            have HPL := Lib.hid HV.out.2.1
            have HFD := Lib.hid (show Fd (.slice tp n tc) (.slice up k uc) (.slice pp i pc) T U P wq from
              ⟨ints_of_owns (l := T) (by rw [HTL.out]; exact HV.out.1.1.t) (by rw [HTL.out]; omega), ints_of_owns (l := U) (by rw [HUL.out]; exact HV.out.1.1.u) (by rw [HUL.out]; omega), pairs_of_owns (by rw [HPL.out]; exact HV.out.1.1.p) (by rw [HPL.out]; omega)⟩)
            have HBW := Lib.hid HV.out.1.1.below
            clear HV HW
            obtain ⟨m, rfl⟩ : ∃ z, z = k := ⟨_, rfl⟩
            obtain ⟨m2, rfl⟩ : ∃ z, z = i := ⟨_, rfl⟩
            (
              obtain ⟨mm, c1, hM⟩ := meet_both T A B
              obtain ⟨L2, n2, c2, hP2⟩ := path_both T A B
              obtain ⟨L3, n3, c3, hU3⟩ := union_both T U A (by rw [HUL.out]; omega)
              obtain ⟨L4, n4, c4, hL4⟩ := loads_both T P (by rw [HPL.out]; omega)
              obtain ⟨cc, hcc⟩ : ∃ cc, codeOf T = cc := ⟨_, rfl⟩
              have KM := Lib.hid (hM (.slice tp n tc))
              have KP := Lib.hid (hP2 (.slice tp n tc))
              have KU := Lib.hid (hU3 (.slice tp n tc) (.slice up m uc))
              have KL := Lib.hid (hL4 (.slice tp n tc) (.slice pp m2 pc))
              have K23 := fun w (h : IntsAt w (.slice tp n tc) T) => Lib.hid (show Calls Try.prog 23 #[.slice tp n tc] w (fun e w' => e = .returned (.int .i64 cc) ∧ w = w') from hcc ▸ check23_any _ T w h)
              have K24 := fun w (h : IntsAt w (.slice tp n tc) T) => Lib.hid (show Calls Try.prog 24 #[.slice tp n tc] w (fun e w' => e = .returned (.int .i64 cc) ∧ w = w') from hcc ▸ check24_any _ T w h)
              clear hM hP2 hU3 hL4 hcc
              go_wp2_with (first
                | (go_at_call 15; (with_reducible refine (KM.out.1 _ HFD.out.t).mono ?_); rintro e w2 ⟨rfl, hb⟩; have F2 := Lib.hid (HFD.out.keep hb); have B2 := Lib.hid (HBW.out.trans (hb.mono HBW.out.size)); clear hb)
                | (go_at_call 21; (with_reducible refine (KM.out.2 _ F2.out.t).mono ?_); rintro e w3 ⟨rfl, hb⟩; have F3 := Lib.hid (F2.out.keep hb); have B3 := Lib.hid (B2.out.trans (hb.mono B2.out.size)); clear hb)
                | (go_at_call 11; (with_reducible refine (KP.out.1 _ F3.out.t).mono ?_); rintro e w4 ⟨ap, ac, rfl, hI, hb⟩; have I4 := Lib.hid hI; have F4 := Lib.hid (F3.out.keep hb); have B4 := Lib.hid (B3.out.trans (hb.mono B3.out.size)); clear hI hb)
                | (go_at_call 22; (with_reducible refine (KP.out.2 _ F4.out.t).mono ?_); rintro e w5 ⟨bp, bc, rfl, hI, hb⟩; have J4 := Lib.hid (I4.out.keep hb); have I5 := Lib.hid hI; have F5 := Lib.hid (F4.out.keep hb); have B5 := Lib.hid (B4.out.trans (hb.mono B4.out.size)); clear hI hb)
                | (go_at_call 23; (with_reducible refine (K23 _ F5.out.t).out.mono ?_); rintro e wx ⟨rfl, rfl⟩)
                | (go_at_call 24; (with_reducible refine (K24 _ F5.out.t).out.mono ?_); rintro e wx ⟨rfl, rfl⟩)
                | (go_at_call 12; (with_reducible refine (same_as J4.out I5.out).mono ?_); rintro e w6 ⟨rfl, hb⟩; have F6 := Lib.hid (F5.out.keep hb); have B6 := Lib.hid (B5.out.trans (hb.mono B5.out.size)); clear hb J4)
                | (go_at_call 25; (with_reducible refine (KU.out.1 _ F6.out.t F6.out.u).mono ?_); rintro e w7 ⟨ep, ec, rfl, hI, hb⟩; have I7 := Lib.hid hI; have F7 := Lib.hid (F6.out.keep hb); have B7 := Lib.hid (B6.out.trans (hb.mono B6.out.size)); clear hI hb)
                | (go_at_call 26; (with_reducible refine (KU.out.2 _ F7.out.t F7.out.u).mono ?_); rintro e w8 ⟨fp, fc, rfl, hI, hb⟩; have J7 := Lib.hid (I7.out.keep hb); have I8 := Lib.hid hI; have F8 := Lib.hid (F7.out.keep hb); have B8 := Lib.hid (B7.out.trans (hb.mono B7.out.size)); clear hI hb)
                | (go_at_call 12; (with_reducible refine (same_as J7.out I8.out).mono ?_); rintro e w9 ⟨rfl, hb⟩; have F9 := Lib.hid (F8.out.keep hb); have B9 := Lib.hid (B8.out.trans (hb.mono B8.out.size)); clear hb J7)
                | (go_at_call 27; (with_reducible refine (KL.out.1 _ F9.out.t F9.out.p).mono ?_); rintro e wa ⟨gp, gc, rfl, hI, hb⟩; have I10 := Lib.hid hI; have F10 := Lib.hid (F9.out.keep hb); have B10 := Lib.hid (B9.out.trans (hb.mono B9.out.size)); clear hI hb)
                | (go_at_call 28; (with_reducible refine (KL.out.2 _ F10.out.t F10.out.p).mono ?_); rintro e wb ⟨hp, hc, rfl, hI, hb⟩; have J10 := Lib.hid (I10.out.keep hb); have I11 := Lib.hid hI; have B11 := Lib.hid (B10.out.trans (hb.mono B10.out.size)); clear hI hb)
                | (go_at_call 14; (with_reducible refine (awake_any _).mono ?_); rintro e wc ⟨rfl, hb⟩; have J12 := Lib.hid (J10.out.keep hb); have I12 := Lib.hid (I11.out.keep hb); have B12 := Lib.hid (B11.out.trans (hb.mono B11.out.size)); clear hb)
                | (go_at_call 12; (with_reducible refine (same_as J12.out I12.out).mono ?_); rintro e wd ⟨rfl, hb⟩; have B13 := Lib.hid (B12.out.trans (hb.mono B12.out.size)); clear hb))
              go_ret
              exact ⟨rfl, B13.out⟩)
end Go.Proofs.Ytkjamafpohnflaa
