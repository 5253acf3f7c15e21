/- Walk: MarginMinimal. -/
import Derived.Test.YthljjllcdocfiaaG3
set_option linter.unusedVariables false
set_option linter.unusedSimpArgs false
set_option linter.unnecessarySimpa false
namespace Go.Proofs.Ythljjllcdocfiaa
open Go Go.ChangeShapes Go.WideShapes Go.ChangeAt Go.RowKit Go.MapKept Go.Deep Go.Joins

set_option maxHeartbeats 16000000 in
set_option maxRecDepth 20000 in
theorem minimal_law (k st : Int) (v u : Value) (l : List Cp) (d : List Int) (w : World) (h : Rd eC w v l) (hd : Rd eI w u d) (h64 : ∀ c ∈ l, InC c) (hd64 : ∀ x ∈ d, In64 x) (hk : In64 k) (hs : In64 st) : Calls Try.prog 6 #[.int .i64 k, .int .i64 st, v, u] w fun e w' => e = .returned (.bool true) ∧ Below w.heap.size w w' := by
  obtain ⟨a, cap, rfl, hlen⟩ := h.open
  obtain ⟨a2, cap2, rfl, hlen2⟩ := hd.open
  have H := Lib.hid h
  have HD := Lib.hid hd
  obtain ⟨n, hn⟩ : ∃ n, l.length = n := ⟨_, rfl⟩
  have HN := Lib.hid hn
  obtain ⟨m, hm⟩ : ∃ n, d.length = n := ⟨_, rfl⟩
  have HM := Lib.hid hm
  rw [hn] at hlen ⊢
  rw [hm] at hlen2 ⊢
  by_cases h14 : 14 < n
  · clear h hn hd hm
    go_enter Try.func6, Try.ntmps6
    go_wp2_with (first
      | (go_at_call 12; (with_reducible refine (awake_any _).mono ?_); rintro e w2 ⟨rfl, hb⟩; have HB := Lib.hid hb; clear hb))
    go_ret
    exact ⟨rfl, HB.out⟩
  by_cases h24 : 24 < m
  · clear h hn hd hm
    go_enter Try.func6, Try.ntmps6
    go_wp2_with (first
      | (go_at_call 12; (with_reducible refine (awake_any _).mono ?_); rintro e w2 ⟨rfl, hb⟩; have HB := Lib.hid hb; clear hb))
    go_ret
    exact ⟨rfl, HB.out⟩
  have KN := Lib.hid (near_any _ l w h h64 (by omega))
  rw [hn] at KN
  have HNL := Lib.hid (show (nearL l).length = n by unfold nearL; rw [List.length_map, hn])
  have HD64 := Lib.hid hd64
  unfold In64 at hk hs
  have W2 := fun wg => Lib.hid (within_any k 4 wg (by omega) (by omega) hk.1 hk.2)
  have W3 := fun wg => Lib.hid (within_any st 4 wg (by omega) (by omega) hs.1 hs.2)
  have hs4 : 0 ≤ st % 4 ∧ st % 4 < 4 := by omega
  have hk4 : 0 ≤ k % 4 ∧ k % 4 < 4 := by omega
  obtain ⟨s', hs'⟩ : ∃ x, st % 4 = x := ⟨_, rfl⟩
  obtain ⟨k', hk'⟩ : ∃ x, k % 4 = x := ⟨_, rfl⟩
  rw [hs'] at W3 hs4
  rw [hk'] at W2 hk4
  obtain ⟨hs41, hs42⟩ := hs4
  obtain ⟨hk41, hk42⟩ := hk4
  obtain ⟨L, e0, hc1⟩ : ∃ L e, cutsF (1 + k') (1 + s') (nearL l) = (L, e) := ⟨_, _, rfl⟩
  have HC1 := Lib.hid hc1
  obtain ⟨rfl, hf, hins⟩ := cuts_near hk41 hk42 hs41 hs42 hc1
  have HF := Lib.hid hf
  have HINS := Lib.hid hins
  have HL1 := Lib.hid (show L.length ≤ 1024 by have := cutsF_len (1 + k') (1 + s') (nearL l); rw [hc1] at this; exact this)
  obtain ⟨z, hz⟩ : ∃ n, L.length = n := ⟨_, rfl⟩
  have HZ := Lib.hid hz
  have hz2 : z ≤ 1024 := by rw [← hz]; exact HL1.out
  clear h hn hd hm h64 hd64 hk hs hs' hk' hc1 hf hins hz
  go_enter Try.func6, Try.ntmps6
  go_wp2_with (first
    | (go_at_call 13; (with_reducible refine KN.out.mono ?_); rintro e w1 ⟨np, nc, rfl, ho⟩; rw [HNL.out] at ho ⊢; have HNR := Lib.hid (ho.rd (by rw [HNL.out]; omega)); have HB1 := Lib.hid ho.below; clear ho)
    | (go_at_call 14; (with_reducible refine (W2 _).out.mono ?_); rintro e w2 ⟨rfl, rfl⟩)
    | (go_at_call 14; (with_reducible refine (W3 _).out.mono ?_); rintro e w2 ⟨rfl, rfl⟩)
    | (go_at_call 22; (with_reducible refine (Cuts_as _ (1 + k') (1 + s') (nearL l) _ HNR.out (by rw [HNL.out]; omega) HC1.out).mono ?_); rintro e w3 ⟨ap, ac, ahs, rfl, ho⟩; rw [HZ.out] at ho ⊢; have HA3 := Lib.hid (ho.rr (by have := HL1.out; omega)); have HN3 := Lib.hid (HNR.out.keep ho.own.below); have HB3 := Lib.hid (HB1.out.trans (ho.own.below.mono HB1.out.size)); clear ho))
  have HI := Lib.hid (show ∀ i, i < z → ∃ x r, ahs[i]? = some x ∧ L[i]? = some r from fun i hi => ⟨ahs[i]'(by rw [HA3.out.len, HZ.out]; exact hi), L[i]'(by rw [HZ.out]; exact hi), by simp, by simp⟩)
  have HD3 := Lib.hid (HD.out.keep HB3.out)
  rw [HM.out] at HD3
  go_loopw [12, 13] (fun x y wr => ∃ (i : Nat) (b : Bool), i ≤ z ∧ y = .int .i64 i ∧ x = .bool b ∧ Hid (insK (modI d) L i = b) ∧ Hid (Below w3.heap.size w3 wr)) (fun _ y _ => z - (intOf y).toNat)
  case atStart => exact ⟨0, false, by omega, rfl, rfl, Lib.hid (insK_zero _ _), Lib.hid (Below.refl _ _)⟩
  case round =>
    rename World => wr
    obtain ⟨i, b, hi, rfl, rfl, HIN, HB⟩ := hrel
    by_cases hiz : i < z
    · obtain ⟨x, S, hx, hS⟩ := HI.out i hiz
      have HW := HA3.out.below HB.out (Nat.le_refl _)
      have HWR := HW.rd
      have hahl : ahs.length = z := by rw [HA3.out.len, HZ.out]
      obtain ⟨g, off, rfl, hg, c0⟩ := HWR.hd hx
      have hrow := HW.row i x S hx hS
      obtain ⟨xa, xn, xc⟩ := x
      simp only at c0
      have HROW := Lib.hid (show Rd eI wr (.slice xa xn xc) S from hrow)
      have HXN := Lib.hid (show S.length = xn from HROW.out.caps.2.2.symm)
      have HSF := Lib.hid (HF.out S (List.mem_of_getElem? hS))
      have hx10 : xn ≤ 10 := by rw [← HXN.out]; exact HSF.out.2.2
      have HST := Lib.hid (insK_succ (D := modI d) hS)
      have HNW := Lib.hid (HN3.out.below HB.out (Nat.le_refl _))
      clear hx hS HW HWR hrow
      go_wp2_with (first
        | (go_at_call 20; (with_reducible refine (Survives_as _ _ (1 + k') (1 + s') (nearL l) S _ HNW.out HROW.out (by rw [HNL.out]; omega) HSF.out.1).mono ?_); rintro e w4 ⟨rfl, hb⟩; have HB4 := Lib.hid (HB.out.trans (hb.mono HB.out.size)); have hg4 := Nat.lt_of_lt_of_le hg hb.size; have c4 := (hb.cell (p := ⟨g, off + i, none⟩) hg).trans c0; have HR4 := Lib.hid (HROW.out.keep hb); have HN4 := Lib.hid (HNW.out.keep hb); clear hb))
      go_loopw [14, 15] (fun x y wq => ∃ (j : Nat) (b2 : Bool), j ≤ xn ∧ y = .int .i64 j ∧ x = .bool b2 ∧ Hid (hitK (modI d) S j = b2) ∧ Hid (Below w4.heap.size w4 wq)) (fun _ y _ => xn - (intOf y).toNat)
      case atStart => exact ⟨0, true, by omega, rfl, rfl, Lib.hid (hitK_zero _ _), Lib.hid (Below.refl _ _)⟩
      case round =>
        rename World => wq
        obtain ⟨j, b2, hj, rfl, rfl, HHIT, HBQ⟩ := hrel
        have gq := Nat.lt_of_lt_of_le hg4 HBQ.out.size
        have cq := (HBQ.out.cell (p := ⟨g, off + i, none⟩) hg4).trans c4
        by_cases hjn : j < xn
        · have HRQ := Lib.hid (HR4.out.below HBQ.out (Nat.le_refl _))
          have HNQ := Lib.hid (HN4.out.below HBQ.out (Nat.le_refl _))
          have hjl : j < S.length := by rw [HXN.out]; exact hjn
          obtain ⟨sb, so, rfl, hsb, cs⟩ := HRQ.out.int (i := j) hjl
          have HSN := Lib.hid (hitK_succ (D := modI d) hjl)
          have HSV := Lib.hid (HSF.out.2.1 j hjl)
          have HCL := Lib.hid (cutI_len hjl)
          obtain ⟨x0, hx0⟩ : ∃ x, S.getD j 0 = x := ⟨_, rfl⟩
          rw [hx0] at cs HSN
          have HX0 := Lib.hid hx0
          obtain ⟨hc1, hc2, -⟩ := HRQ.out.caps
          obtain ⟨sa, hif⟩ : ∃ sa, (if xc = j + 1 then (some ⟨sb, so, none⟩ : Option Addr) else some ⟨sb, so + (j + 1), none⟩) = sa := ⟨_, rfl⟩
          have HS1 := Lib.hid (HRQ.out.head (i := j) (by omega) xc)
          have HS2 := Lib.hid (show Src wq (.slice sa (xn - (j + 1)) (xc - (j + 1))) 1 (xn - (j + 1)) (eI.flat (S.drop (j + 1))) by
            by_cases e : xn = j + 1
            · rw [show xn - (j + 1) = 0 by omega, List.drop_eq_nil_of_le (by rw [HXN.out]; omega)]
              exact src_none _ _
            · have := HRQ.out.tail (i := j + 1) HXN.out (by rw [HXN.out]; omega) (xc - (j + 1))
              rw [← hif, if_neg (by omega)]
              simpa [eI] using this)
          have hkc1 : j ≤ xc := by omega
          have hkc2 : j + 1 ≤ xc := by omega
          have hkc3 : j + 1 ≤ xn := by omega
          have hwi : IntKind.i64.wrap ((j : Int) + 1) = (j : Int) + 1 := IntWalk.i64_in _ (by omega)
          have hw0 : (0 : Int) ≤ (j : Int) + 1 := by omega
          have hin2 : (j : Int) + 1 ≤ (xn : Int) := by omega
          have hwn : ((j : Int) + 1).toNat = j + 1 := by omega
          clear hx0 hjl
          go_wp2_with fail
          refine wp_region_pick_tail (Below wq.heap.size wq) (AS wq 3 1 (.slice none 0 0) 0 [] []) [0, 1, 2, 3, 4, 5, 7, 8, 9, 10, 11, 12, 13] 2 15 (by kernel_rfl) ?_ AS.stable AS.base (AS.start wq 3 1) ?_
          · kernel_rfl
          repeat (apply pRow_plain
                  · exact rfl
                  · exact rfl
                  · intro wg hg
                    ((have x1 := (hg.cell (p := ⟨g, off + i, none⟩) gq).trans cq))
                    go_simp
                    first
                      | exact rfl
                      | exact Below.refl _ _
                      | exact ⟨Below.refl _ _, rfl⟩
                      | ((fail))
                  intro K hK
                  go_simp
                  refine hK _ ?_
                  clear hK K)
          refine pRow_nil ?_
          refine lAnyL_step [6] ?_ (by simp) (by decide) ?_
          · kernel_rfl
          intro jj hj
          obtain rfl : jj = 6 := by simpa using hj
          refine lOp_app elt31 _ _ rfl rfl rfl rfl rfl (fun wg hg => HS1.out.below hg.below) (by omega) ?_
          intro u1
          go_simp
          refine lAnyL_step [14] ?_ (by simp) (by decide) ?_
          · kernel_rfl
          intro jj hj
          obtain rfl : jj = 14 := by simpa using hj
          refine lOp_app elt31 _ _ rfl rfl rfl rfl rfl (fun wg hg => HS2.out.below hg.below) (by omega) ?_
          intro u2
          go_simp
          refine ⟨?_, ?_⟩
          · kernel_rfl
          intro wg hg
          obtain ⟨ua, ucap, rfl⟩ := owns_val hg.row
          have HG := Lib.hid (own_of (E := eI) hg (I := cutI S j) (by rw [HCL.out, HXN.out]; omega) (by unfold cutI; exact (flat_app _ _).symm))
          have HRT := Lib.hid (HG.out.rd (by rw [HCL.out, HXN.out]; omega))
          have HNG := Lib.hid (HNQ.out.keep HG.out.below)
          have HBG := Lib.hid (HBQ.out.trans (HG.out.below.mono HBQ.out.size))
          have HRG := Lib.hid (HRQ.out.keep HG.out.below)
          have gg := Nat.lt_of_lt_of_le gq HG.out.below.size
          have cg := (HG.out.below.cell (p := ⟨g, off + i, none⟩) gq).trans cq
          clear hg
          go_wp2_with (first
            | (go_at_call 20; (with_reducible refine (Survives_as _ _ (1 + k') (1 + s') (nearL l) (cutI S j) _ HNG.out HRT.out (by rw [HNL.out]; omega) HSV.out).mono ?_); rintro e w5 ⟨rfl, hb⟩; have HB5 := Lib.hid (HBG.out.trans (hb.mono HBG.out.size)); have g5 := Nat.lt_of_lt_of_le gg hb.size; have c5 := (hb.cell (p := ⟨g, off + i, none⟩) gg).trans cg; have HR5 := Lib.hid (HRG.out.keep hb); clear hb))
          have HD5 := Lib.hid ((HD3.out.below HB4.out (Nat.le_refl _)).below HB5.out (Nat.le_refl _))
          go_loopw [17, 18] (fun x y wz => ∃ (t : Nat) (b3 : Bool), t ≤ m ∧ y = .int .i64 t ∧ x = .bool b3 ∧ Hid (hasI (modI (d.take t)) x0 = b3) ∧ Hid (Below w5.heap.size w5 wz)) (fun _ y _ => m - (intOf y).toNat)
          case atStart => exact ⟨0, false, by omega, rfl, rfl, Lib.hid (by simp [modI, hasI]), Lib.hid (Below.refl _ _)⟩
          case round =>
            rename World => wz
            obtain ⟨t, b3, ht, rfl, rfl, HAS, HBT⟩ := hrel
            have gz := Nat.lt_of_lt_of_le g5 HBT.out.size
            have cz := (HBT.out.cell (p := ⟨g, off + i, none⟩) g5).trans c5
            by_cases htm : t < m
            · have htl : t < d.length := by rw [HM.out]; exact htm
              have HRZ := HR5.out.below HBT.out (Nat.le_refl _)
              have hsz : sb < wz.heap.size := by
                obtain ⟨b', off', e, hb, _⟩ := HRZ.int (i := j) (by rw [HXN.out]; exact hjn)
                cases e
                exact hb
              have csz := HRZ.int' (i := j) (by rw [HXN.out]; exact hjn)
              rw [HX0.out] at csz
              have HDZ := HD5.out.below HBT.out (Nat.le_refl _)
              obtain ⟨db, dof, rfl, hdb, cd⟩ := HDZ.int htl
              have hx64 := HD64.out (d.getD t 0) (by rw [show d.getD t 0 = d[t] by simp [htl]]; exact List.getElem_mem _)
              unfold In64 at hx64
              have HMS := Lib.hid (mod_take htl)
              obtain ⟨y0, hy0⟩ : ∃ x, d.getD t 0 = x := ⟨_, rfl⟩
              rw [hy0] at cd hx64 HMS
              have W8 := fun wg => Lib.hid (within_any y0 8 wg (by omega) (by omega) hx64.1 hx64.2)
              have HNX := Lib.hid (show hasI (modI (d.take (t + 1))) x0 = (b3 || (y0 % 8 == x0)) by
                rw [← HAS.out, HMS.out, Bool.eq_iff_iff, Bool.or_eq_true, hasI_iff, hasI_iff, List.mem_append, List.mem_singleton, beq_iff_eq]
                exact or_congr Iff.rfl ⟨Eq.symm, Eq.symm⟩)
              clear hy0 htl HRZ HDZ hx64
              cases b3 with
              | true =>
                go_wp2_with fail
                refine wp_region_grow (Below wz.heap.size wz) (by kernel_rfl) ?_ (Below.refl _ _).drew ?_
                · kernel_rfl
                try simp only [List.append_eq, List.cons_append, List.nil_append]
                repeat first
                         | (apply gRow_plain
                            · exact rfl
                            · intro wg hg
                              ((skip))
                              go_simp
                              first
                                | exact rfl
                                | exact hg
                                | exact ⟨hg, rfl⟩
                                | ((fail))
                            intro K hK
                            go_simp
                            refine hK _ ?_
                            clear hK K)
                         | (apply gRow_step
                            · go_simp; done
                            · intro wg hg
                              ((skip))
                              go_simp
                              first
                                | exact rfl
                                | exact hg
                                | exact ⟨hg, rfl⟩
                                | ((fail))
                            intro K hK
                            go_simp
                            refine hK _ ?_
                            clear hK K)
                         | (apply gRow_not
                            · go_simp; done
                            intro K hK
                            go_simp
                            refine hK _ ?_
                            clear hK K)
                refine gRow_nil ?_
                rintro w9 hb9
                have HB9 := Lib.hid (HBT.out.trans (hb9.mono HBT.out.size))
                clear hb9
                go_wp2_with fail
                go_roundw
                case rel => exact ⟨t + 1, true, by omega, by go_num, rfl, Lib.hid (by rw [HNX.out]; rfl), HB9⟩
                case measure => simp [intOf]; omega
              | false =>
                go_wp2_with fail
                refine wp_region_grow (Below wz.heap.size wz) (by kernel_rfl) ?_ (Below.refl _ _).drew ?_
                · kernel_rfl
                try simp only [List.append_eq, List.cons_append, List.nil_append]
                repeat first
                         | (apply gRow_plain
                            · exact rfl
                            · intro wg hg
                              ((have x1 := (hg.cell (p := ⟨db, dof + t, none⟩) hdb).trans cd; have x2 := (hg.cell (p := ⟨g, off + i, none⟩) gz).trans cz; have x3 := (hg.cell (p := ⟨sb, so + j, none⟩) hsz).trans csz))
                              go_simp
                              first
                                | exact rfl
                                | exact hg
                                | exact ⟨hg, rfl⟩
                                | ((first
| ((with_reducible refine (W8 _).out.mono ?_); rintro e w' ⟨rfl, rfl⟩; exact ⟨rfl, hg⟩)))
                            intro K hK
                            go_simp
                            refine hK _ ?_
                            clear hK K)
                         | (apply gRow_step
                            · go_simp; done
                            · intro wg hg
                              ((have x1 := (hg.cell (p := ⟨db, dof + t, none⟩) hdb).trans cd; have x2 := (hg.cell (p := ⟨g, off + i, none⟩) gz).trans cz; have x3 := (hg.cell (p := ⟨sb, so + j, none⟩) hsz).trans csz))
                              go_simp
                              first
                                | exact rfl
                                | exact hg
                                | exact ⟨hg, rfl⟩
                                | ((first
| ((with_reducible refine (W8 _).out.mono ?_); rintro e w' ⟨rfl, rfl⟩; exact ⟨rfl, hg⟩)))
                            intro K hK
                            go_simp
                            refine hK _ ?_
                            clear hK K)
                         | (apply gRow_not
                            · go_simp; done
                            intro K hK
                            go_simp
                            refine hK _ ?_
                            clear hK K)
                refine gRow_nil ?_
                rintro w9 hb9
                have HB9 := Lib.hid (HBT.out.trans (hb9.mono HBT.out.size))
                clear hb9
                go_wp2_with fail
                go_roundw
                case rel => exact ⟨t + 1, y0 % 8 == x0, by omega, by go_num, rfl, Lib.hid (by rw [HNX.out]; rfl), HB9⟩
                case measure => simp [intOf]; omega
            · obtain rfl : t = m := by omega
              have HFD := Lib.hid (show hasI (modI d) x0 = b3 by rw [← HAS.out, ← HM.out, List.take_length])
              have HBX := Lib.hid (HB5.out.trans (HBT.out.mono HB5.out.size))
              rw [HHIT.out, HFD.out] at HSN
              cases b2 with
              | true =>
                go_wp2_with fail
                go_roundw
                case rel => exact ⟨j + 1, b3, by omega, by go_num, rfl, Lib.hid (by rw [HSN.out]; rfl), HBX⟩
                case measure => simp [intOf]; omega
              | false =>
                go_wp2_with fail
                go_roundw
                case rel => exact ⟨j + 1, false, by omega, by go_num, rfl, Lib.hid (by rw [HSN.out]; rfl), HBX⟩
                case measure => simp [intOf]; omega
        · obtain rfl : j = xn := by omega
          have HAL := Lib.hid (show hitK (modI d) S S.length = b2 by rw [HXN.out]; exact HHIT.out)
          have HBZ := Lib.hid (HB4.out.trans (HBQ.out.mono HB4.out.size))
          rw [HIN.out, HAL.out] at HST
          cases b with
          | true =>
            go_wp2_with fail
            go_roundw
            case rel => exact ⟨i + 1, true, by omega, by go_num, rfl, Lib.hid (by rw [HST.out]; rfl), HBZ⟩
            case measure => simp [intOf]; omega
          | false =>
            go_wp2_with fail
            go_roundw
            case rel => exact ⟨i + 1, b2, by omega, by go_num, rfl, Lib.hid (by rw [HST.out]; rfl), HBZ⟩
            case measure => simp [intOf]; omega
    · obtain rfl : i = z := by omega
      have HFI := Lib.hid (show b = !survF (1 + k') (1 + s') (nearL l) (modI d) by rw [← HIN.out, ← HINS.out, HZ.out])
      have HN8 := Lib.hid (HN3.out.below HB.out (Nat.le_refl _))
      have HD8 := Lib.hid (HD3.out.below HB.out (Nat.le_refl _))
      obtain ⟨q, hq⟩ : ∃ q, survF (1 + k') (1 + s') (nearL l) (modI d) = q := ⟨_, rfl⟩
      rw [hq] at HFI
      have HQ := Lib.hid hq
      have HBB := Lib.hid (HB3.out.trans (HB.out.mono HB3.out.size))
      clear hq
      go_wp2_with fail
      go_loopw [19, 20] (fun x y wq => ∃ (t : Nat) (p : Option Addr) (c : Nat), t ≤ m ∧ y = .int .i64 t ∧ x = .slice p t c ∧ Hid (Ow eI 3 wr wq (.slice p t c) (modI (d.take t)))) (fun _ y _ => m - (intOf y).toNat)
      case atStart => exact ⟨0, none, 0, by omega, rfl, rfl, Lib.hid (Ow.start 3 wr)⟩
      case round =>
        rename World => wq
        obtain ⟨t, p, c, ht, rfl, rfl, HO⟩ := hrel
        by_cases htm : t < m
        · have htl : t < d.length := by rw [HM.out]; exact htm
          have HR := HD8.out.below HO.out.below (Nat.le_refl _)
          obtain ⟨db, dof, rfl, hdb, c0⟩ := HR.int htl
          have hx64 := HD64.out (d.getD t 0) (by rw [show d.getD t 0 = d[t] by simp [htl]]; exact List.getElem_mem _)
          unfold In64 at hx64
          have HS := Lib.hid (mod_take htl)
          have HLT := Lib.hid (mod_len d (show t ≤ d.length by omega))
          obtain ⟨x, hx⟩ : ∃ x, d.getD t 0 = x := ⟨_, rfl⟩
          rw [hx] at c0 hx64 HS
          have W8 := fun wg => Lib.hid (within_any x 8 wg (by omega) (by omega) hx64.1 hx64.2)
          obtain ⟨y, hy⟩ : ∃ y, x % 8 = y := ⟨_, rfl⟩
          rw [hy] at W8 HS
          clear hx hy htl HR hx64
          go_wp2_with (first
            | (go_at_call 14; (with_reducible refine (W8 _).out.mono ?_); rintro e w2 ⟨rfl, rfl⟩)
            | (at_builtin; refine wpList_push elt31 (E := eI) (l := modI (d.take t)) (x := y) _ _ rfl rfl rfl rfl rfl HO.out (by rw [HLT.out]; omega) ?_; intro p3 c3 w3 HO3 HG3; rw [HLT.out] at HO3 ⊢))
          go_roundw
          case rel => exact ⟨t + 1, p3, c3, by omega, by go_num, rfl, Lib.hid (by rw [HS.out]; exact HO3.out)⟩
          case measure => simp [intOf]; omega
        · obtain rfl : t = m := by omega
          have HFD := Lib.hid (show modI (d.take t) = modI d by rw [← HM.out, List.take_length])
          rw [HFD.out] at HO
          have HML := Lib.hid (show (modI d).length = t by unfold modI; rw [List.length_map, HM.out])
          have HDR := Lib.hid (HO.out.rd (by rw [HML.out]; omega))
          have HN9 := Lib.hid (HN8.out.keep HO.out.below)
          have HB9 := Lib.hid (HBB.out.trans (HO.out.below.mono HBB.out.size))
          obtain rfl := HFI.out
          have hqq : ((!q) == (!q)) = true := by simp
          go_wp2_with (first
            | (go_at_call 12; (with_reducible refine (awake_any _).mono ?_); rintro e w7 ⟨rfl, hb⟩; have HB10 := Lib.hid (HB9.out.trans (hb.mono HB9.out.size)); have HN10 := Lib.hid (HN9.out.keep hb); have HD10 := Lib.hid (HDR.out.keep hb); clear hb)
            | (go_at_call 20; (with_reducible refine (Survives_as _ _ (1 + k') (1 + s') (nearL l) (modI d) _ HN10.out HD10.out (by rw [HNL.out]; omega) HQ.out).mono ?_); rintro e w8 ⟨rfl, hb⟩; have HB11 := Lib.hid (HB10.out.trans (hb.mono HB10.out.size)); clear hb))
          go_ret
          exact ⟨rfl, HB11.out⟩
end Go.Proofs.Ythljjllcdocfiaa
