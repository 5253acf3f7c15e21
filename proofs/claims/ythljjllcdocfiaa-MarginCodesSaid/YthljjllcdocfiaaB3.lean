/- The reference's Cuts. -/
import Derived.Test.YthljjllcdocfiaaB2
set_option linter.unusedVariables false
set_option linter.unusedSimpArgs false
set_option linter.unnecessarySimpa false
namespace Go.Proofs.Ythljjllcdocfiaa
open Go Go.RowKit Go.MapKept

/-- the call hands back a slice of slices of its own, and a number -/
def IsSets (w : World) (L : List (List Int)) (n : Int) (e : Ending) (w' : World) : Prop := ∃ p cap hs, e = .returned (.tuple #[.slice p L.length cap, .int .i64 n]) ∧ RO w w' (.slice p L.length cap) hs L

theorem drvF_len (l : List Cp) : (drvL l).length ≤ l.length := by have := drv_len l l.length; rwa [List.take_length] at this



theorem ins_rows {w : World} {hs : List Hd} {D : List (List Int)} {x : Hd} {S : List Int} {k : Nat} (hl : hs.length = D.length) (hr : ∀ (i : Nat) (x : Hd) (r : List Int), hs[i]? = some x → D[i]? = some r → Rd eI w (hv x) r) (hS : Rd eI w (hv x) S) :
    ∀ (i : Nat) (y : Hd) (r : List Int), (hs.take k ++ [x] ++ hs.drop k)[i]? = some y → (D.take k ++ [S] ++ D.drop k)[i]? = some r → Rd eI w (hv y) r := by
  have e1 : (hs.take k).length = (D.take k).length := by simp [hl]
  intro i y r hy hr'
  rw [List.append_assoc] at hy hr'
  by_cases h1 : i < (hs.take k).length
  · rw [List.getElem?_append_left h1, List.getElem?_take] at hy
    rw [List.getElem?_append_left (by rw [← e1]; exact h1), List.getElem?_take] at hr'
    split at hy
    · rename_i hk
      rw [if_pos hk] at hr'
      exact hr i y r hy hr'
    · cases hy
  · rw [List.getElem?_append_right (by omega)] at hy
    rw [List.getElem?_append_right (by omega), ← e1] at hr'
    cases hq : i - (hs.take k).length with
    | zero =>
      rw [hq] at hy hr'
      simp at hy hr'
      subst hy hr'
      exact hS
    | succ j =>
      rw [hq] at hy hr'
      simp at hy hr'
      exact hr _ y r hy hr'

set_option maxHeartbeats 8000000 in
set_option maxRecDepth 20000 in
theorem RCuts_as (v : Value) (k st : Int) (l : List Cp) (w : World) (h : Rd eC w v l) (hl : l.length ≤ 1000) {L : List (List Int)} {e : Int} (hc : cutsF k st l = (L, e)) : Calls Try.prog 23 #[.int .i64 k, .int .i64 st, v] w (IsSets w L e) := by
  obtain ⟨a, cap, rfl, hlen⟩ := h.open
  have H := Lib.hid h
  obtain ⟨n1, hn1⟩ : ∃ n, l.length = n := ⟨_, rfl⟩
  have HN1 := Lib.hid hn1
  obtain ⟨q, hq⟩ : ∃ q, validB k st = q := ⟨_, rfl⟩
  have KV := fun w => Lib.hid (show Calls Try.prog 25 #[.int .i64 k, .int .i64 st] w (fun e w' => e = .returned (.bool q) ∧ w = w') from hq ▸ Valid_any k st w)
  unfold cutsF at hc
  rw [hq] at hc
  rw [hn1] at hlen hl ⊢
  cases q with
  | false =>
    simp at hc
    obtain ⟨rfl, rfl⟩ := hc
    clear h hn1 hq
    go_enter Try.func23, Try.ntmps23
    go_wp2_with (first
      | (go_at_call 25; (with_reducible refine (KV _).out.mono ?_); rintro e w1 ⟨rfl, rfl⟩))
    go_ret2
    exact ⟨none, 0, [], rfl, RO.start w⟩
  | true =>
    have KD := Lib.hid (Drives_any _ l w h (by rw [hn1]; exact hl))
    rw [hn1] at KD
    have hd1 := Lib.hid (drvF_len l)
    generalize drvL l = d at *
    obtain ⟨n, hn⟩ : ∃ n, d.length = n := ⟨_, rfl⟩
    have HN := Lib.hid hn
    rw [hn] at hc
    by_cases h10 : 10 < n
    · simp [h10] at hc
      obtain ⟨rfl, rfl⟩ := hc
      clear h hn1 hq
      go_enter Try.func23, Try.ntmps23
      go_wp2_with (first
        | (go_at_call 25; (with_reducible refine (KV _).out.mono ?_); rintro e w1 ⟨rfl, rfl⟩)
        | (go_at_call 26; (with_reducible refine KD.out.mono ?_); rintro e w1 ⟨p, c, rfl, ho⟩; rw [HN.out] at ho ⊢; have HO := Lib.hid ho; clear ho))
      go_ret2
      exact ⟨none, 0, [], rfl, (RO.start w1).down HO.out.below⟩
    · simp [h10] at hc
      obtain ⟨hc, rfl⟩ := hc
      have HC := Lib.hid hc
      obtain ⟨P, hP⟩ : ∃ P, 2 ^ n = P := ⟨_, rfl⟩
      have hP2 : P ≤ 1024 := by rw [← hP]; exact Nat.le_trans (Nat.pow_le_pow_right (by decide) (show n ≤ 10 by omega)) (by decide)
      have hsh : wrap64 ((2 : Int) ^ n) = (P : Int) := by rw [two_pow_cast, hP]; exact wrap64_small (by omega) (by omega)
      have HP := Lib.hid hP
      clear h hn1 hq hc hP hn
      go_enter Try.func23, Try.ntmps23
      go_wp2_with (first
        | (go_at_call 25; (with_reducible refine (KV _).out.mono ?_); rintro e w1 ⟨rfl, rfl⟩)
        | (go_at_call 26; (with_reducible refine KD.out.mono ?_); rintro e w1 ⟨p, c, rfl, ho⟩; rw [HN.out] at ho ⊢; have HO := Lib.hid ho; have HW := Lib.hid (ho.rd (by rw [HN.out]; omega)); clear ho))
      go_loopw [9, 10] (fun x y wr => ∃ (i m : Nat) (p2 : Option Addr) (c2 : Nat) (hs : List Hd) (D : List (List Int)), i ≤ P ∧ y = .int .i64 i ∧ x = .slice p2 m c2 ∧ m ≤ i ∧ Hid (D.length = m) ∧ Hid (cutsR k st l d i = D) ∧ Hid (RO w1 wr (.slice p2 m c2) hs D)) (fun _ y _ => P - (intOf y).toNat)
      case atStart => exact ⟨0, 0, none, 0, [], [], by omega, rfl, rfl, by omega, Lib.hid rfl, Lib.hid rfl, Lib.hid (RO.start w1)⟩
      case round =>
        rename World => wr
        obtain ⟨i, m, p2, c2, hs, D, hi, rfl, rfl, hmi, HM, HD, HR⟩ := hrel
        by_cases hip : i < P
        · have HW1 := Lib.hid (HW.out.below HR.out.own.below (Nat.le_refl _))
          have KC := Lib.hid (chosen_any _ d i wr HW1.out (by rw [HN.out]; omega))
          obtain ⟨S, hS⟩ : ∃ S, chL d i = S := ⟨_, rfl⟩
          rw [hS] at KC
          have HSS := Lib.hid hS
          have HSL := Lib.hid (show S.length ≤ 10 by rw [← hS]; have := chK_len d i d.length; have := HN.out; unfold chL; omega)
          obtain ⟨r, hr⟩ : ∃ r, S.length = r := ⟨_, rfl⟩
          have HRL := Lib.hid hr
          have hr10 : r ≤ 10 := by rw [← hr]; exact HSL.out
          have HA := Lib.hid ((H.out.below HO.out.below (Nat.le_refl _)).below HR.out.own.below (Nat.le_refl _))
          rw [HN1.out] at HA
          obtain ⟨s, hs1⟩ : ∃ s, survF k st l S = s := ⟨_, rfl⟩
          obtain ⟨mi, hmi1⟩ : ∃ s, minB k st l S = s := ⟨_, rfl⟩
          have HSV := Lib.hid hs1
          have HMI := Lib.hid hmi1
          have HST := Lib.hid (show cutsR k st l d (i + 1) = if (!s && mi) = true then insS D S else D by
            show (if cutB k st l (chL d i) then insS (cutsR k st l d i) (chL d i) else cutsR k st l d i) = _
            rw [hS, HD.out]
            unfold cutB
            rw [hs1, hmi1])
          clear hS hr hs1 hmi1
          cases s with
          | true =>
            have HE := Lib.hid (show cutsR k st l d (i + 1) = D by rw [HST.out]; rfl)
            go_wp2_with (first
              | (go_at_call 41; (with_reducible refine KC.out.mono ?_); rintro e w2 ⟨sp, sc, rfl, ho⟩; rw [HRL.out] at ho ⊢; have HT := Lib.hid (ho.rd (by rw [HRL.out]; omega)); have HB2 := Lib.hid ho.below; clear ho)
              | (go_at_call 21; (with_reducible refine (RSurvives_as _ _ k st l S _ (HA.out.keep HB2.out) HT.out (by rw [HN1.out]; exact hl) HSV.out).mono ?_); rintro e w3 ⟨rfl, hb3⟩; have HB3 := Lib.hid (HB2.out.trans (hb3.mono HB2.out.size)); clear hb3))
            go_roundw
            case rel => exact ⟨i + 1, m, p2, c2, hs, D, by omega, by go_num, rfl, by omega, HM, HE, Lib.hid (HR.out.grow HB3.out)⟩
            case measure => simp [intOf]; omega
          | false =>
            cases mi with
            | false =>
              have HE := Lib.hid (show cutsR k st l d (i + 1) = D by rw [HST.out]; rfl)
              go_wp2_with (first
                | (go_at_call 41; (with_reducible refine KC.out.mono ?_); rintro e w2 ⟨sp, sc, rfl, ho⟩; rw [HRL.out] at ho ⊢; have HT := Lib.hid (ho.rd (by rw [HRL.out]; omega)); have HB2 := Lib.hid ho.below; clear ho)
                | (go_at_call 21; (with_reducible refine (RSurvives_as _ _ k st l S _ (HA.out.keep HB2.out) HT.out (by rw [HN1.out]; exact hl) HSV.out).mono ?_); rintro e w3 ⟨rfl, hb3⟩; have HT3 := Lib.hid (HT.out.keep hb3); have HB3 := Lib.hid (HB2.out.trans (hb3.mono HB2.out.size)); clear hb3)
                | (go_at_call 42; (with_reducible refine (minimal_as _ _ k st l S _ (HA.out.keep HB3.out) HT3.out (by rw [HN1.out]; exact hl) (by rw [HRL.out]; omega) HMI.out).mono ?_); rintro e w4 ⟨rfl, hb4⟩; have HB4 := Lib.hid (HB3.out.trans (hb4.mono HB3.out.size)); clear hb4))
              go_roundw
              case rel => exact ⟨i + 1, m, p2, c2, hs, D, by omega, by go_num, rfl, by omega, HM, HE, Lib.hid (HR.out.grow HB4.out)⟩
              case measure => simp [intOf]; omega
            | true =>
              have HE := Lib.hid (show cutsR k st l d (i + 1) = insS D S by rw [HST.out]; rfl)
              go_wp2_with (first
                | (go_at_call 41; (with_reducible refine KC.out.mono ?_); rintro e w2 ⟨sp, sc, rfl, ho⟩; rw [HRL.out] at ho ⊢; have HT := Lib.hid (ho.rd (by rw [HRL.out]; omega)); have HB2 := Lib.hid ho.below; clear ho)
                | (go_at_call 21; (with_reducible refine (RSurvives_as _ _ k st l S _ (HA.out.keep HB2.out) HT.out (by rw [HN1.out]; exact hl) HSV.out).mono ?_); rintro e w3 ⟨rfl, hb3⟩; have HT3 := Lib.hid (HT.out.keep hb3); have HB3 := Lib.hid (HB2.out.trans (hb3.mono HB2.out.size)); clear hb3)
                | (go_at_call 42; (with_reducible refine (minimal_as _ _ k st l S _ (HA.out.keep HB3.out) HT3.out (by rw [HN1.out]; exact hl) (by rw [HRL.out]; omega) HMI.out).mono ?_); rintro e w4 ⟨rfl, hb4⟩; have HT4 := Lib.hid (HT3.out.keep hb4); have HR4 := Lib.hid (HR.out.grow (HB3.out.trans (hb4.mono HB3.out.size))); clear hb4))
              clear HT HT3 HB2 HB3
              go_loopw [12] (fun y wq => ∃ j : Nat, j ≤ m ∧ y = .int .i64 j ∧ Hid (∀ (z : Nat) (q : List Int), z < j → D[z]? = some q → lessL q S = true) ∧ Hid (Below w4.heap.size w4 wq)) (fun y _ => m - (intOf y).toNat)
              case atStart => exact ⟨0, by omega, rfl, Lib.hid (fun z q hz => by omega), Lib.hid (Below.refl _ _)⟩
              case round =>
                rename World => wq
                obtain ⟨j, hjm, rfl, HPJ, HB⟩ := hrel
                have HRQ := Lib.hid (HR4.out.grow HB.out)
                have HTQ := Lib.hid (HT4.out.keep HB.out)
                have HRW := Lib.hid (fun i x r hx hr => (HRQ.out.row i x r hx hr).1)
                have HHL := Lib.hid (show hs.length = m by rw [HR4.out.len, HM.out])
                have HHR := Lib.hid (HRQ.out.own.rd (by rw [HHL.out]; omega))
                have HZB := Lib.hid (HRQ.out.own.below)
                have HSZ := Lib.hid (show Rd eI wq (hv ((sp, r, sc) : Hd)) S from HTQ.out)
                by_cases hj : j < m
                · obtain ⟨x, hx⟩ : ∃ x, hs[j]? = some x := ⟨hs[j]'(by rw [HHL.out]; exact hj), by simp⟩
                  obtain ⟨y, hy⟩ : ∃ x, D[j]? = some x := ⟨D[j]'(by rw [HM.out]; exact hj), by simp⟩
                  obtain ⟨g, go, rfl, hg, ck⟩ := HHR.out.hd hx
                  have HXR0 := HRW.out j x y hx hy
                  obtain ⟨xa, xn, xc⟩ := x
                  simp only at ck
                  have HXR := Lib.hid (show Rd eI wq (.slice xa xn xc) y from HXR0)
                  clear HXR0
                  have HY := Lib.hid hy
                  obtain ⟨z, hz⟩ : ∃ z, lessL y S = z := ⟨_, rfl⟩
                  have HZ := Lib.hid hz
                  clear hx hy hz
                  cases z with
                  | true =>
                    go_wp2_with (first
                      | (go_at_call 29; (with_reducible refine (less_as _ _ y S _ HXR.out HTQ.out HZ.out).mono ?_); rintro e w5 ⟨rfl, nq, rfl⟩))
                    go_roundw
                    case rel =>
                      refine ⟨j + 1, by omega, by go_num, Lib.hid (fun z q hz hq => ?_), Lib.hid (below_drewN HB.out _)⟩
                      by_cases e : z = j
                      · subst e
                        rw [HY.out] at hq
                        cases hq
                        exact HZ.out
                      · exact HPJ.out z q (by omega) hq
                    case measure => simp [intOf]; omega
                  | false =>
                    have HK2 := Lib.hid (show ∀ q, D[j]? = some q → lessL q S = false from fun q hq => by rw [HY.out] at hq; cases hq; exact HZ.out)
                    go_wp2_with (first
                      | (go_at_call 29; (with_reducible refine (less_as _ _ y S _ HXR.out HTQ.out HZ.out).mono ?_); rintro e w5 ⟨rfl, nq, rfl⟩))
                    obtain ⟨hc1, hc2, -, hgo⟩ := HRQ.out.own.cap
                    simp only at hgo
                    subst hgo
                    obtain ⟨sa, hif⟩ : ∃ sa, (if c2 = j then (some ⟨g, 0, none⟩ : Option Addr) else some ⟨g, j, none⟩) = sa := ⟨_, rfl⟩
                    have HHZ := Lib.hid (HHR.out.keep (below_drewN (Below.refl _ _) nq))
                    have HS1 := Lib.hid (HHZ.out.head (i := j) (by rw [HHL.out]; omega) c2)
                    have HS2 := Lib.hid (show Src (wq.drewN nq) (.slice sa (m - j) (c2 - j)) 1 (m - j) (eH.flat (hs.drop j)) by
                      have := HHZ.out.tail (i := j) HHL.out (by rw [HHL.out]; omega) (c2 - j)
                      rw [← hif, if_neg (by omega)]
                      simpa [eH] using this)
                    have HRW := Lib.hid (fun i x r hx hr => ((HRQ.out.grow (below_drewN (Below.refl _ _) nq)).row i x r hx hr).1)
                    have HZB := Lib.hid (below_drewN HZB.out nq)
                    have HSZ := Lib.hid (HSZ.out.keep (below_drewN (Below.refl _ _) nq))
                    have hkc : j ≤ c2 := by omega
                    clear ck
                    generalize wq.drewN nq = wz at *
                    (have HF1 := Lib.hid (insS_at (k := j) HPJ.out HK2.out)
                     refine wp_region_pick_tail (Below wz.heap.size wz) (AS wz 31 1 (.slice none 0 0) 0 [] []) [0, 1, 2, 4, 7, 8, 9] 4 11 (by kernel_rfl) ?_ AS.stable AS.base (AS.start wz 31 1) ?_
                     · kernel_rfl
                     repeat (apply pRow_plain
                             · exact rfl
                             · exact rfl
                             · intro wg hg
                               ((skip))
                               go_simp
                               first
                                 | exact rfl
                                 | exact Below.refl _ _
                                 | exact ⟨Below.refl _ _, rfl⟩
                                 | ((fail))
                             intro K hK
                             go_simp
                             refine hK _ ?_
                             clear hK K)
                     refine pRow_nil ?_
                     refine lAnyL_step [3, 5] ?_ (by simp) (by decide) ?_
                     · kernel_rfl
                     intro j2 hj
                     have hj' : j2 = 3 ∨ j2 = 5 := by simpa using hj
                     rcases hj' with rfl | rfl
                     · refine lOp_app elt35 _ _ rfl rfl rfl rfl rfl (fun wg hg => HS1.out.below hg.below) (by omega) ?_
                       intro u1
                       go_simp
                       refine lAnyL_step [5] ?_ (by simp) (by decide) ?_
                       · kernel_rfl
                       intro j2 hj
                       obtain rfl : j2 = 5 := by simpa using hj
                       refine lOp_build #[.slice sp r sc] rfl rfl (fun w => by go_simp) ?_
                       intro bx
                       go_simp
                       (refine lAnyL_step [6] ?_ (by simp) (by decide) ?_
                        · kernel_rfl
                        intro j2 hj
                        obtain rfl : j2 = 6 := by simpa using hj
                        refine lOp_app elt35 _ _ rfl rfl rfl rfl rfl (fun wg hg => hg.src (c := #[.slice sp r sc]) (by simp) rfl (by intro u hu; simp at hu; subst hu; rfl)) (by omega) ?_
                        intro u2
                        go_simp
                        refine lAnyL_step [10] ?_ (by simp) (by decide) ?_
                        · kernel_rfl
                        intro j2 hj
                        obtain rfl : j2 = 10 := by simpa using hj
                        refine lOp_app elt35 _ _ rfl rfl rfl rfl rfl (fun wg hg => HS2.out.below hg.below) (by omega) ?_
                        intro u3
                        go_simp
                        refine ⟨?_, ?_⟩
                        · kernel_rfl
                        intro wg hg
                        obtain ⟨ua, ucap, rfl⟩ := owns_val hg.row
                        have HLH := Lib.hid (show (hs.take j ++ [((sp, r, sc) : Hd)] ++ hs.drop j).length = m + 1 by have := HHL.out; simp; omega)
                        have HG2 := Lib.hid (own_of (E := eH) hg (I := hs.take j ++ [((sp, r, sc) : Hd)] ++ hs.drop j) (by have := HLH.out; omega) (by rw [flat_app, flat_app, List.append_assoc]; first | rfl | (rw [hD0]; rfl)))
                        have HG3 := Lib.hid (RO.fresh (L := insS D S) HG2.out (by rw [insS_len, HM.out, HLH.out]) (by rw [HF1.out]; exact ins_rows (by rw [HHL.out, HM.out]) HRW.out HSZ.out))
                        clear hg
                        go_wp2
                        go_roundw
                        case rel => exact ⟨i + 1, _, ua, ucap, _, insS D S, by omega, by go_num, rfl, by omega, Lib.hid (by have := insS_len D S; have := HM.out; omega), HE, Lib.hid (HG3.out.down HZB.out)⟩
                        case measure => simp [intOf]; omega)
                     · refine lOp_build #[.slice sp r sc] rfl rfl (fun w => by go_simp) ?_
                       intro bx
                       go_simp
                       refine lAnyL_step [3] ?_ (by simp) (by decide) ?_
                       · kernel_rfl
                       intro j2 hj
                       obtain rfl : j2 = 3 := by simpa using hj
                       refine lOp_app elt35 _ _ rfl rfl rfl rfl rfl (fun wg hg => HS1.out.below hg.below) (by omega) ?_
                       intro u1
                       go_simp
                       (refine lAnyL_step [6] ?_ (by simp) (by decide) ?_
                        · kernel_rfl
                        intro j2 hj
                        obtain rfl : j2 = 6 := by simpa using hj
                        refine lOp_app elt35 _ _ rfl rfl rfl rfl rfl (fun wg hg => hg.src (c := #[.slice sp r sc]) (by simp) rfl (by intro u hu; simp at hu; subst hu; rfl)) (by omega) ?_
                        intro u2
                        go_simp
                        refine lAnyL_step [10] ?_ (by simp) (by decide) ?_
                        · kernel_rfl
                        intro j2 hj
                        obtain rfl : j2 = 10 := by simpa using hj
                        refine lOp_app elt35 _ _ rfl rfl rfl rfl rfl (fun wg hg => HS2.out.below hg.below) (by omega) ?_
                        intro u3
                        go_simp
                        refine ⟨?_, ?_⟩
                        · kernel_rfl
                        intro wg hg
                        obtain ⟨ua, ucap, rfl⟩ := owns_val hg.row
                        have HLH := Lib.hid (show (hs.take j ++ [((sp, r, sc) : Hd)] ++ hs.drop j).length = m + 1 by have := HHL.out; simp; omega)
                        have HG2 := Lib.hid (own_of (E := eH) hg (I := hs.take j ++ [((sp, r, sc) : Hd)] ++ hs.drop j) (by have := HLH.out; omega) (by rw [flat_app, flat_app, List.append_assoc]; first | rfl | (rw [hD0]; rfl)))
                        have HG3 := Lib.hid (RO.fresh (L := insS D S) HG2.out (by rw [insS_len, HM.out, HLH.out]) (by rw [HF1.out]; exact ins_rows (by rw [HHL.out, HM.out]) HRW.out HSZ.out))
                        clear hg
                        go_wp2
                        go_roundw
                        case rel => exact ⟨i + 1, _, ua, ucap, _, insS D S, by omega, by go_num, rfl, by omega, Lib.hid (by have := insS_len D S; have := HM.out; omega), HE, Lib.hid (HG3.out.down HZB.out)⟩
                        case measure => simp [intOf]; omega))
                · have hjm2 : j = m := by omega
                  have HK2 := Lib.hid (show ∀ q, D[j]? = some q → lessL q S = false from fun q hq => by rw [List.getElem?_eq_none (by rw [HM.out]; omega)] at hq; cases hq)
                  have hDR : hs.drop j = [] := List.drop_eq_nil_of_le (by rw [HHL.out]; omega)
                  go_wp2_with fail
                  rcases p2 with _ | ⟨g, go, gs⟩
                  · obtain ⟨h0, rfl, hD0⟩ := HRQ.out.own.bare
                    subst h0
                    subst hjm2
                    have HS1 : Hid (Src wq (.slice none 0 0) 1 0 (eH.flat (hs.take 0))) := Lib.hid (src_none _ _)
                    have HS2 : Hid (Src wq (.slice none (0 - 0) (0 - 0)) 1 (0 - 0) (eH.flat (hs.drop 0))) := Lib.hid (by rw [hDR]; exact src_none _ _)
                    clear hDR
                    generalize wq = wz at *
                    (have HF1 := Lib.hid (insS_at (k := 0) HPJ.out HK2.out)
                     refine wp_region_pick_tail (Below wz.heap.size wz) (AS wz 31 1 (.slice none 0 0) 0 [] []) [0, 1, 2, 4, 7, 8, 9] 4 11 (by kernel_rfl) ?_ AS.stable AS.base (AS.start wz 31 1) ?_
                     · kernel_rfl
                     repeat (apply pRow_plain
                             · exact rfl
                             · exact rfl
                             · intro wg hg
                               ((skip))
                               go_simp
                               first
                                 | exact rfl
                                 | exact Below.refl _ _
                                 | exact ⟨Below.refl _ _, rfl⟩
                                 | ((fail))
                             intro K hK
                             go_simp
                             refine hK _ ?_
                             clear hK K)
                     refine pRow_nil ?_
                     refine lAnyL_step [3, 5] ?_ (by simp) (by decide) ?_
                     · kernel_rfl
                     intro j2 hj
                     have hj' : j2 = 3 ∨ j2 = 5 := by simpa using hj
                     rcases hj' with rfl | rfl
                     · refine lOp_app elt35 _ _ rfl rfl rfl rfl rfl (fun wg hg => HS1.out.below hg.below) (by omega) ?_
                       intro u1
                       go_simp
                       refine lAnyL_step [5] ?_ (by simp) (by decide) ?_
                       · kernel_rfl
                       intro j2 hj
                       obtain rfl : j2 = 5 := by simpa using hj
                       refine lOp_build #[.slice sp r sc] rfl rfl (fun w => by go_simp) ?_
                       intro bx
                       go_simp
                       (refine lAnyL_step [6] ?_ (by simp) (by decide) ?_
                        · kernel_rfl
                        intro j2 hj
                        obtain rfl : j2 = 6 := by simpa using hj
                        refine lOp_app elt35 _ _ rfl rfl rfl rfl rfl (fun wg hg => hg.src (c := #[.slice sp r sc]) (by simp) rfl (by intro u hu; simp at hu; subst hu; rfl)) (by omega) ?_
                        intro u2
                        go_simp
                        refine lAnyL_step [10] ?_ (by simp) (by decide) ?_
                        · kernel_rfl
                        intro j2 hj
                        obtain rfl : j2 = 10 := by simpa using hj
                        refine lOp_app elt35 _ _ rfl rfl rfl rfl rfl (fun wg hg => HS2.out.below hg.below) (by omega) ?_
                        intro u3
                        go_simp
                        refine ⟨?_, ?_⟩
                        · kernel_rfl
                        intro wg hg
                        obtain ⟨ua, ucap, rfl⟩ := owns_val hg.row
                        have HLH := Lib.hid (show (hs.take 0 ++ [((sp, r, sc) : Hd)] ++ hs.drop 0).length = 0 + 1 by have := HHL.out; simp; omega)
                        have HG2 := Lib.hid (own_of (E := eH) hg (I := hs.take 0 ++ [((sp, r, sc) : Hd)] ++ hs.drop 0) (by have := HLH.out; omega) (by rw [flat_app, flat_app, List.append_assoc]; first | rfl | (rw [hD0]; rfl)))
                        have HG3 := Lib.hid (RO.fresh (L := insS D S) HG2.out (by rw [insS_len, HM.out, HLH.out]) (by rw [HF1.out]; exact ins_rows (by rw [HHL.out, HM.out]) HRW.out HSZ.out))
                        clear hg
                        go_wp2
                        go_roundw
                        case rel => exact ⟨i + 1, _, ua, ucap, _, insS D S, by omega, by go_num, rfl, by omega, Lib.hid (by have := insS_len D S; have := HM.out; omega), HE, Lib.hid (HG3.out.down HZB.out)⟩
                        case measure => simp [intOf]; omega)
                     · refine lOp_build #[.slice sp r sc] rfl rfl (fun w => by go_simp) ?_
                       intro bx
                       go_simp
                       refine lAnyL_step [3] ?_ (by simp) (by decide) ?_
                       · kernel_rfl
                       intro j2 hj
                       obtain rfl : j2 = 3 := by simpa using hj
                       refine lOp_app elt35 _ _ rfl rfl rfl rfl rfl (fun wg hg => HS1.out.below hg.below) (by omega) ?_
                       intro u1
                       go_simp
                       (refine lAnyL_step [6] ?_ (by simp) (by decide) ?_
                        · kernel_rfl
                        intro j2 hj
                        obtain rfl : j2 = 6 := by simpa using hj
                        refine lOp_app elt35 _ _ rfl rfl rfl rfl rfl (fun wg hg => hg.src (c := #[.slice sp r sc]) (by simp) rfl (by intro u hu; simp at hu; subst hu; rfl)) (by omega) ?_
                        intro u2
                        go_simp
                        refine lAnyL_step [10] ?_ (by simp) (by decide) ?_
                        · kernel_rfl
                        intro j2 hj
                        obtain rfl : j2 = 10 := by simpa using hj
                        refine lOp_app elt35 _ _ rfl rfl rfl rfl rfl (fun wg hg => HS2.out.below hg.below) (by omega) ?_
                        intro u3
                        go_simp
                        refine ⟨?_, ?_⟩
                        · kernel_rfl
                        intro wg hg
                        obtain ⟨ua, ucap, rfl⟩ := owns_val hg.row
                        have HLH := Lib.hid (show (hs.take 0 ++ [((sp, r, sc) : Hd)] ++ hs.drop 0).length = 0 + 1 by have := HHL.out; simp; omega)
                        have HG2 := Lib.hid (own_of (E := eH) hg (I := hs.take 0 ++ [((sp, r, sc) : Hd)] ++ hs.drop 0) (by have := HLH.out; omega) (by rw [flat_app, flat_app, List.append_assoc]; first | rfl | (rw [hD0]; rfl)))
                        have HG3 := Lib.hid (RO.fresh (L := insS D S) HG2.out (by rw [insS_len, HM.out, HLH.out]) (by rw [HF1.out]; exact ins_rows (by rw [HHL.out, HM.out]) HRW.out HSZ.out))
                        clear hg
                        go_wp2
                        go_roundw
                        case rel => exact ⟨i + 1, _, ua, ucap, _, insS D S, by omega, by go_num, rfl, by omega, Lib.hid (by have := insS_len D S; have := HM.out; omega), HE, Lib.hid (HG3.out.down HZB.out)⟩
                        case measure => simp [intOf]; omega))
                  · obtain ⟨hc1, hc2, hgs, hgo⟩ := HRQ.out.own.cap
                    simp only at hgo hgs
                    subst hgo hgs
                    obtain ⟨sa, hif⟩ : ∃ sa, (if c2 = j then (some ⟨g, 0, none⟩ : Option Addr) else some ⟨g, j, none⟩) = sa := ⟨_, rfl⟩
                    have HS1 := Lib.hid (HHR.out.head (i := j) (by rw [HHL.out]; omega) c2)
                    have HS2 := Lib.hid (show Src wq (.slice sa (m - j) (c2 - j)) 1 (m - j) (eH.flat (hs.drop j)) by
                      rw [hDR, show m - j = 0 by omega]
                      exact src_none _ _)
                    have hkc : j ≤ c2 := by omega
                    have HKM := Lib.hid hjm2
                    clear hDR hjm2
                    generalize wq = wz at *
                    (have HF1 := Lib.hid (insS_at (k := j) HPJ.out HK2.out)
                     refine wp_region_pick_tail (Below wz.heap.size wz) (AS wz 31 1 (.slice none 0 0) 0 [] []) [0, 1, 2, 4, 7, 8, 9] 4 11 (by kernel_rfl) ?_ AS.stable AS.base (AS.start wz 31 1) ?_
                     · kernel_rfl
                     repeat (apply pRow_plain
                             · exact rfl
                             · exact rfl
                             · intro wg hg
                               ((skip))
                               go_simp
                               first
                                 | exact rfl
                                 | exact Below.refl _ _
                                 | exact ⟨Below.refl _ _, rfl⟩
                                 | ((fail))
                             intro K hK
                             go_simp
                             refine hK _ ?_
                             clear hK K)
                     refine pRow_nil ?_
                     refine lAnyL_step [3, 5] ?_ (by simp) (by decide) ?_
                     · kernel_rfl
                     intro j2 hj
                     have hj' : j2 = 3 ∨ j2 = 5 := by simpa using hj
                     rcases hj' with rfl | rfl
                     · refine lOp_app elt35 _ _ rfl rfl rfl rfl rfl (fun wg hg => HS1.out.below hg.below) (by omega) ?_
                       intro u1
                       go_simp
                       refine lAnyL_step [5] ?_ (by simp) (by decide) ?_
                       · kernel_rfl
                       intro j2 hj
                       obtain rfl : j2 = 5 := by simpa using hj
                       refine lOp_build #[.slice sp r sc] rfl rfl (fun w => by go_simp) ?_
                       intro bx
                       go_simp
                       (refine lAnyL_step [6] ?_ (by simp) (by decide) ?_
                        · kernel_rfl
                        intro j2 hj
                        obtain rfl : j2 = 6 := by simpa using hj
                        refine lOp_app elt35 _ _ rfl rfl rfl rfl rfl (fun wg hg => hg.src (c := #[.slice sp r sc]) (by simp) rfl (by intro u hu; simp at hu; subst hu; rfl)) (by omega) ?_
                        intro u2
                        go_simp
                        refine lAnyL_step [10] ?_ (by simp) (by decide) ?_
                        · kernel_rfl
                        intro j2 hj
                        obtain rfl : j2 = 10 := by simpa using hj
                        refine lOp_app elt35 _ _ rfl rfl rfl rfl rfl (fun wg hg => HS2.out.below hg.below) (by omega) ?_
                        intro u3
                        go_simp
                        refine ⟨?_, ?_⟩
                        · kernel_rfl
                        intro wg hg
                        obtain ⟨ua, ucap, rfl⟩ := owns_val hg.row
                        have HLH := Lib.hid (show (hs.take j ++ [((sp, r, sc) : Hd)] ++ hs.drop j).length = m + 1 by have := HHL.out; simp; omega)
                        have HG2 := Lib.hid (own_of (E := eH) hg (I := hs.take j ++ [((sp, r, sc) : Hd)] ++ hs.drop j) (by have := HLH.out; omega) (by rw [flat_app, flat_app, List.append_assoc]; first | rfl | (rw [hD0]; rfl)))
                        have HG3 := Lib.hid (RO.fresh (L := insS D S) HG2.out (by rw [insS_len, HM.out, HLH.out]) (by rw [HF1.out]; exact ins_rows (by rw [HHL.out, HM.out]) HRW.out HSZ.out))
                        clear hg
                        go_wp2
                        go_roundw
                        case rel => exact ⟨i + 1, _, ua, ucap, _, insS D S, by omega, by go_num, rfl, by omega, Lib.hid (by have := insS_len D S; have := HM.out; omega), HE, Lib.hid (HG3.out.down HZB.out)⟩
                        case measure => simp [intOf]; omega)
                     · refine lOp_build #[.slice sp r sc] rfl rfl (fun w => by go_simp) ?_
                       intro bx
                       go_simp
                       refine lAnyL_step [3] ?_ (by simp) (by decide) ?_
                       · kernel_rfl
                       intro j2 hj
                       obtain rfl : j2 = 3 := by simpa using hj
                       refine lOp_app elt35 _ _ rfl rfl rfl rfl rfl (fun wg hg => HS1.out.below hg.below) (by omega) ?_
                       intro u1
                       go_simp
                       (refine lAnyL_step [6] ?_ (by simp) (by decide) ?_
                        · kernel_rfl
                        intro j2 hj
                        obtain rfl : j2 = 6 := by simpa using hj
                        refine lOp_app elt35 _ _ rfl rfl rfl rfl rfl (fun wg hg => hg.src (c := #[.slice sp r sc]) (by simp) rfl (by intro u hu; simp at hu; subst hu; rfl)) (by omega) ?_
                        intro u2
                        go_simp
                        refine lAnyL_step [10] ?_ (by simp) (by decide) ?_
                        · kernel_rfl
                        intro j2 hj
                        obtain rfl : j2 = 10 := by simpa using hj
                        refine lOp_app elt35 _ _ rfl rfl rfl rfl rfl (fun wg hg => HS2.out.below hg.below) (by omega) ?_
                        intro u3
                        go_simp
                        refine ⟨?_, ?_⟩
                        · kernel_rfl
                        intro wg hg
                        obtain ⟨ua, ucap, rfl⟩ := owns_val hg.row
                        have HLH := Lib.hid (show (hs.take j ++ [((sp, r, sc) : Hd)] ++ hs.drop j).length = m + 1 by have := HHL.out; simp; omega)
                        have HG2 := Lib.hid (own_of (E := eH) hg (I := hs.take j ++ [((sp, r, sc) : Hd)] ++ hs.drop j) (by have := HLH.out; omega) (by rw [flat_app, flat_app, List.append_assoc]; first | rfl | (rw [hD0]; rfl)))
                        have HG3 := Lib.hid (RO.fresh (L := insS D S) HG2.out (by rw [insS_len, HM.out, HLH.out]) (by rw [HF1.out]; exact ins_rows (by rw [HHL.out, HM.out]) HRW.out HSZ.out))
                        clear hg
                        go_wp2
                        go_roundw
                        case rel => exact ⟨i + 1, _, ua, ucap, _, insS D S, by omega, by go_num, rfl, by omega, Lib.hid (by have := insS_len D S; have := HM.out; omega), HE, Lib.hid (HG3.out.down HZB.out)⟩
                        case measure => simp [intOf]; omega))
        · obtain rfl : i = P := by omega
          have HF := Lib.hid (show D = L by rw [← HD.out, ← HC.out, HP.out])
          go_wp2_with fail
          go_ret2
          have := HR.out
          rw [← HM.out] at this ⊢
          rw [HF.out] at this ⊢
          exact ⟨p2, c2, hs, rfl, this.down HO.out.below⟩
end Go.Proofs.Ythljjllcdocfiaa
