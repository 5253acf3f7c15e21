/- MarginCodes: the walk. -/
import Derived.Test.YthljjllcdocfiaaH2
set_option linter.unusedVariables false
set_option linter.unusedSimpArgs false
set_option linter.unnecessarySimpa false
namespace Go.Proofs.Ythljjllcdocfiaa
open Go Go.RowKit Go.MapKept

theorem pair_at {L : List (List Int)} (h : L.Pairwise (fun x y => lessL x y = true)) {i : Nat} {x y : List Int} (hx : L[i]? = some x) (hy : L[i + 1]? = some y) : lessL x y = true := by
  obtain ⟨h1, e1⟩ := List.getElem?_eq_some_iff.1 hx
  obtain ⟨h2, e2⟩ := List.getElem?_eq_some_iff.1 hy
  have := List.pairwise_iff_getElem.1 h i (i + 1) h1 h2 (by omega)
  rw [e1, e2] at this
  exact this
theorem sorted_at {S : List Int} (h : S.Pairwise (· < ·)) {j : Nat} (hj : j + 1 < S.length) : S.getD j 0 < S.getD (j + 1) 0 := by
  have := List.pairwise_iff_getElem.1 h j (j + 1) (by omega) hj (by omega)
  rw [show S.getD j 0 = S[j] by simp [show j < S.length by omega], show S.getD (j + 1) 0 = S[j + 1] by simp [hj]]
  exact this
theorem getD_mem {S : List Int} {j : Nat} (hj : j < S.length) : S.getD j 0 ∈ S := by
  rw [show S.getD j 0 = S[j] by simp [hj]]
  exact List.getElem_mem _
set_option maxHeartbeats 8000000 in
set_option maxRecDepth 20000 in
theorem codes_law (k n0 st ba : Int) (w : World) (hk : In64 k) (hn0 : In64 n0) (hs : In64 st) (hb : In64 ba) :
    Calls Try.prog 10 #[.int .i64 k, .int .i64 n0, .int .i64 st, .int .i64 ba] w fun e w' => e = .returned (.bool true) ∧ Below w.heap.size w w' := by
  unfold In64 at hk hn0 hs hb
  have W1 := fun wg => Lib.hid (within_any k 6 wg (by omega) (by omega) hk.1 hk.2)
  have W2 := fun wg => Lib.hid (within_any st 4 wg (by omega) (by omega) hs.1 hs.2)
  have W4 := fun wg => Lib.hid (within_any ba 100 wg (by omega) (by omega) hb.1 hb.2)
  obtain ⟨k', hk'⟩ : ∃ x, k % 6 = x := ⟨_, rfl⟩
  obtain ⟨s', hs'⟩ : ∃ x, st % 4 = x := ⟨_, rfl⟩
  obtain ⟨b, hb'⟩ : ∃ x, ba % 100 = x := ⟨_, rfl⟩
  rw [hk'] at W1
  rw [hs'] at W2
  rw [hb'] at W4
  obtain ⟨K, hK⟩ : ∃ K : Nat, 1 + k' = (K : Int) := ⟨(1 + k').toNat, by omega⟩
  obtain ⟨T, hT⟩ : ∃ T : Nat, 1 + s' = (T : Int) := ⟨(1 + s').toNat, by omega⟩
  obtain ⟨M, hM⟩ : ∃ M : Nat, (8 : Int) - (K : Int) + 1 = (M : Int) := ⟨(8 - (K : Int) + 1).toNat, by omega⟩
  have hM1 : 1 ≤ M := by omega
  have W3 := fun wg => Lib.hid (within_any n0 M wg (by omega) (by omega) hn0.1 hn0.2)
  obtain ⟨r, hr⟩ : ∃ x, n0 % (M : Int) = x := ⟨_, rfl⟩
  have hr2 : 0 ≤ r ∧ r < M := by rw [← hr]; exact ⟨Int.emod_nonneg _ (by omega), Int.emod_lt_of_pos _ (by omega)⟩
  rw [hr] at W3
  obtain ⟨n, hn⟩ : ∃ n : Nat, (K : Int) + r = (n : Int) := ⟨((K : Int) + r).toNat, by omega⟩
  obtain ⟨q, hq⟩ : ∃ q : Nat, (n : Int) - (K : Int) = (q : Int) := ⟨n - K, by omega⟩
  have hK1 : 1 ≤ K ∧ K ≤ 6 ∧ 1 ≤ T ∧ T ≤ 4 ∧ K ≤ n ∧ n ≤ 8 ∧ q ≤ 8 ∧ q = n - K ∧ 0 ≤ b ∧ b < 100 := by omega
  obtain ⟨h1, h2, h3, h4, hKn, hn8, hq8, hqe, hb1, hb2⟩ := hK1
  have HE := Lib.hid (marg_code (b := b) h1 h2 h3 h4 hn8)
  rw [hq] at HE
  obtain ⟨L, e, hc⟩ : ∃ L e, cutsF (K : Int) (T : Int) (codeL b n) = (L, e) := ⟨_, _, rfl⟩
  obtain ⟨rfl, hF0, hP0, hLen0⟩ := cuts_code h1 h2 h3 h4 hn8 hKn hc
  have HC := Lib.hid hc
  rw [← hqe] at hF0 hLen0
  have HF := Lib.hid hF0
  have HP := Lib.hid hP0
  obtain ⟨z, hz⟩ : ∃ z, L.length = z := ⟨_, rfl⟩
  have HZ := Lib.hid hz
  have hz3 : z < 1000 := by rw [← hz, hLen0]; exact want_small n (by omega) _ (by omega)
  have HW := Lib.hid (show ∀ i, i ≤ q + 1 → wantN n i < 1000 from fun i hi => want_small n (by omega) i (by omega))
  have HLZ := Lib.hid (show wantN n (q + 1) = z from hLen0.symm.trans hz)
  clear hk' hs' hb' hr hk hn0 hs hb hc hF0 hP0 hLen0 hz hqe
  go_enter Try.func10, Try.ntmps10
  go_wp2_with (first
    | (go_at_call 14; (with_reducible refine (W1 _).out.mono ?_); rintro e w2 ⟨rfl, rfl⟩)
    | (go_at_call 14; (with_reducible refine (W2 _).out.mono ?_); rintro e w2 ⟨rfl, rfl⟩)
    | (go_at_call 14; (with_reducible refine (W3 _).out.mono ?_); rintro e w2 ⟨rfl, rfl⟩)
    | (go_at_call 14; (with_reducible refine (W4 _).out.mono ?_); rintro e w2 ⟨rfl, rfl⟩))
  go_loopw [9, 10] (fun x y wr => ∃ (f : Nat) (p : Option Addr) (c : Nat), f ≤ n ∧ y = .int .i64 f ∧ x = .slice p f c ∧ Hid (Ow eC 44 w wr (.slice p f c) (codeL b f))) (fun _ y _ => n - (intOf y).toNat)
  case atStart => exact ⟨0, none, 0, by omega, rfl, rfl, Lib.hid (Ow.start 44 w)⟩
  case round =>
    rename World => wr
    obtain ⟨f, p, c, hf, rfl, rfl, HO⟩ := hrel
    have HLF := Lib.hid (code_len b f)
    by_cases hfn : f < n
    · go_wp2_with (first
        | (at_builtin; refine wpList_push elt22 (E := eC) (l := codeL b f) (x := ((f : Int), b + (f : Int), 15)) _ _ rfl rfl rfl rfl rfl HO.out (by rw [HLF.out]; omega) ?_; intro p3 c3 w3 HO3 HG3; rw [HLF.out] at HO3 ⊢))
      go_roundw
      case rel => exact ⟨f + 1, p3, c3, by omega, by go_num, rfl, Lib.hid (by rw [code_succ]; exact HO3.out)⟩
      case measure => simp [intOf]; omega
    · obtain rfl : f = n := by omega
      have HR := Lib.hid (HO.out.rd (by rw [HLF.out]; omega))
      have B0 := Lib.hid HO.out.below
      go_wp2_with (first
        | (go_at_call 15; (with_reducible refine (Margin_as _ K T (codeL b f) _ HR.out HE.out).mono ?_); rintro e w2 ⟨rfl, hb⟩; have HR2 := Lib.hid (HR.out.keep hb); have B2 := Lib.hid (B0.out.trans (hb.mono B0.out.size)); clear hb)
        | (go_at_call 22; (with_reducible refine (Cuts_as _ K T (codeL b f) _ HR2.out (by rw [HLF.out]; omega) HC.out).mono ?_); rintro e w3 ⟨ap, ac, ahs, rfl, ho⟩; rw [HZ.out] at ho ⊢; have HA := Lib.hid (ho.rr (by rw [HZ.out]; omega)); have B3 := Lib.hid (B2.out.trans (ho.own.below.mono B2.out.size)); clear ho))
      have HI := Lib.hid (show ∀ i, i < z → ∃ x r, ahs[i]? = some x ∧ L[i]? = some r from fun i hi => ⟨ahs[i]'(by rw [HA.out.len, HZ.out]; exact hi), L[i]'(by rw [HZ.out]; exact hi), by simp, by simp⟩)
      go_loopw [15, 16] (fun x y wq => ∃ (i : Nat), i ≤ q + 1 ∧ y = .int .i64 i ∧ x = .int .i64 (wantN f i) ∧ wq = w3) (fun _ y _ => q + 1 - (intOf y).toNat)
      case atStart => exact ⟨0, by omega, rfl, rfl, rfl⟩
      case round =>
        rename World => wr2
        obtain ⟨i, hi, rfl, rfl, rfl⟩ := hrel
        by_cases hiq : i < q + 1
        · have hwn := HW.out i (by omega)
          have hwn2 := HW.out (i + 1) (by omega)
          have HST := Lib.hid (show wantN f (i + 1) = wantN f i * (f - i) / (i + 1) from rfl)
          obtain ⟨a, ha⟩ : ∃ a, wantN f i = a := ⟨_, rfl⟩
          obtain ⟨a2, ha2⟩ : ∃ a, wantN f (i + 1) = a := ⟨_, rfl⟩
          have HA2 := Lib.hid ha2
          rw [ha] at hwn HST ⊢
          rw [ha2] at hwn2 HST
          obtain ⟨d, hd⟩ : ∃ d, f - i = d := ⟨_, rfl⟩
          rw [hd] at HST
          have hd2 : (f : Int) - (i : Int) = (d : Int) := by omega
          obtain ⟨P, hP⟩ : ∃ P, a * d = P := ⟨_, rfl⟩
          rw [hP] at HST
          have hP2 : (a : Int) * (d : Int) = (P : Int) := by rw [← hP]; push_cast; rfl
          have hP3 : P ≤ 1000 * 8 := by rw [← hP]; exact Nat.mul_le_mul (by omega) (by omega)
          have hdiv : (P : Int).tdiv ((i : Int) + 1) = (a2 : Int) := by
            rw [HST.out]
            rw [Int.tdiv_eq_ediv_of_nonneg (by omega)]
            rfl
          clear ha ha2 hd hP
          go_wp2_with fail
          go_roundw
          case rel => exact ⟨i + 1, by omega, by go_num, by rw [HA2.out], by first | trivial | rfl⟩
          case measure => simp [intOf]; omega
        · obtain rfl : i = q + 1 := by omega
          rw [HLZ.out]
          simp only [show ((q + 1 : Nat) : Int) = (q : Int) + 1 from rfl]
          go_wp2_with fail
          go_loopw [17] (fun y wq => ∃ (i : Nat), i ≤ z ∧ y = .int .i64 i ∧ Hid (Below wr2.heap.size wr2 wq)) (fun y _ => z - (intOf y).toNat)
          case atStart => exact ⟨0, by omega, rfl, Lib.hid (Below.refl _ _)⟩
          case round =>
            rename World => wq
            obtain ⟨i, hi, rfl, HB⟩ := hrel
            by_cases hiz : i < z
            · obtain ⟨x, S, hx, hS⟩ := HI.out i hiz
              have HW' := HA.out.below HB.out (Nat.le_refl _)
              have HWR := HW'.rd
              have hahl : ahs.length = z := by rw [HA.out.len, HZ.out]
              obtain ⟨g, off, rfl, hg, c0⟩ := HWR.hd hx
              have hrow := HW'.row i x S hx hS
              obtain ⟨xa, xn, xc⟩ := x
              simp only at c0
              have HROW := Lib.hid (show Rd eI wq (.slice xa xn xc) S from hrow)
              have HSF := Lib.hid (HF.out S (List.mem_of_getElem? hS))
              have hxn : xn = q + 1 := by rw [HROW.out.caps.2.2]; exact HSF.out.1
              subst hxn
              have HXN := Lib.hid HSF.out.1
              have HX := Lib.hid hx
              have HS := Lib.hid hS
              clear hx hS HW' HWR hrow
              go_wp2_with fail
              go_loopw [18] (fun y wz => ∃ (j : Nat), j ≤ q + 1 ∧ y = .int .i64 j ∧ Hid (Below wq.heap.size wq wz)) (fun y _ => q + 1 - (intOf y).toNat)
              case atStart => exact ⟨0, by omega, rfl, Lib.hid (Below.refl _ _)⟩
              case round =>
                rename World => wz
                obtain ⟨j, hj, rfl, HBZ⟩ := hrel
                have cz := (HBZ.out.cell (p := ⟨g, off + i, none⟩) hg).trans c0
                have gz := Nat.lt_of_lt_of_le hg HBZ.out.size
                by_cases hjq : j < q + 1
                · have HRZ := HROW.out.below HBZ.out (Nat.le_refl _)
                  have hjl : j < S.length := by rw [HXN.out]; exact hjq
                  obtain ⟨sb, so, rfl, hsb, cs⟩ := HRZ.int hjl
                  obtain ⟨hx1, hx2⟩ := HSF.out.2.1 _ (getD_mem hjl)
                  obtain ⟨x, hxe⟩ : ∃ x, S.getD j 0 = x := ⟨_, rfl⟩
                  rw [hxe] at cs hx1 hx2
                  have t1 : decide (x < b) = false := by simp; omega
                  have t2 : decide (x ≥ b + (f : Int)) = false := by simp; omega
                  have t2' : decide (b + (f : Int) ≤ x) = false := by simp; omega
                  have hwr : IntKind.i64.wrap (b + (f : Int)) = b + (f : Int) := IntWalk.i64_in _ (by omega)
                  by_cases hj0 : j = 0
                  · subst hj0
                    rw [Nat.add_zero] at cs
                    clear HRZ hxe
                    go_wp2_with fail
                    go_quiet (fail)
                    clear hwr
                    go_wp2_with fail
                    go_roundw
                    case rel => exact ⟨1, by omega, by go_num, Lib.hid (below_drewN HBZ.out _)⟩
                    case measure => simp [intOf] <;> omega
                  · obtain ⟨j', rfl⟩ : ∃ j', j = j' + 1 := ⟨j - 1, by omega⟩
                    have cs' := HRZ.int' (i := j') (by omega)
                    have hlt := sorted_at HSF.out.2.2 hjl
                    obtain ⟨y, hye⟩ : ∃ x, S.getD j' 0 = x := ⟨_, rfl⟩
                    rw [hye] at cs' hlt
                    rw [hxe] at hlt
                    have t3 : decide (x ≤ y) = false := by simp; omega
                    clear HRZ hxe hye
                    go_wp2_with fail
                    go_quiet (fail)
                    clear hwr
                    go_wp2_with fail
                    go_roundw
                    case rel => exact ⟨j' + 1 + 1, by omega, by go_num, Lib.hid (below_drewN HBZ.out _)⟩
                    case measure => simp [intOf]; omega
                · obtain rfl : j = q + 1 := by omega
                  have HBX := Lib.hid (HB.out.trans (HBZ.out.mono HB.out.size))
                  by_cases hi0 : i = 0
                  · subst hi0
                    rw [Nat.add_zero] at cz
                    go_wp2_with fail
                    go_quiet (fail)
                    go_wp2_with fail
                    go_roundw
                    case rel => exact ⟨1, by omega, by go_num, Lib.hid (below_drewN HBX.out _)⟩
                    case measure => simp [intOf] <;> omega
                  · obtain ⟨i', rfl⟩ : ∃ i', i = i' + 1 := ⟨i - 1, by omega⟩
                    obtain ⟨x, S0, hx, hS⟩ := HI.out i' (by omega)
                    have HWZ := HA.out.below HBX.out (Nat.le_refl _)
                    have hrow0 := HWZ.row i' x S0 hx hS
                    have hrow1 := HWZ.row (i' + 1) _ S HX.out HS.out
                    obtain ⟨g', off', e, -, d0⟩ := HWZ.rd.hd hx
                    cases e
                    obtain ⟨ya, yn, yc⟩ := x
                    simp only at d0
                    have K1 := Lib.hid (fun (wg : World) (hw : Below wz.heap.size wz wg) => less_as _ _ S0 S wg ((show Rd eI wz (.slice ya yn yc) S0 from hrow0).keep hw) ((show Rd eI wz (.slice xa (q + 1) xc) S from hrow1).keep hw) (pair_at HP.out hS HS.out))
                    clear hx hS HWZ hrow0 hrow1
                    have hiz' : i' < z := by omega
                    have hw4 : ((i' : Int) + 1).toNat = i' + 1 := by omega
                    have hw5 : (0 : Int) ≤ (i' : Int) + 1 := by omega
                    have hw6 : (i' : Int) + 1 < (z : Int) := by omega
                    have hw3 : IntKind.i64.wrap (i' : Int) = (i' : Int) := IntWalk.i64_in _ (by omega)
                    have hw1 : IntKind.i64.wrap (((i' + 1 : Nat) : Int) - 1) = (i' : Int) := by rw [show ((i' + 1 : Nat) : Int) - 1 = (i' : Int) by omega]; exact IntWalk.i64_in _ (by omega)
                    have hw2 : IntKind.i64.wrap ((i' : Int) + 1 - 1) = (i' : Int) := by rw [show (i' : Int) + 1 - 1 = (i' : Int) by omega]; exact IntWalk.i64_in _ (by omega)
                    go_wp2_with fail
                    refine wp_region_grow (Below wz.heap.size wz) (by kernel_rfl) (by kernel_rfl) (Below.refl _ _).drew ?_
                    try simp only [List.append_eq, List.cons_append, List.nil_append]
                    repeat first
                             | (apply gRow_plain
                                · exact rfl
                                · intro wg hg
                                  ((have x1 := (hg.cell (p := ⟨g, off + (i' + 1), none⟩) gz).trans cz; have x2 := (hg.cell (p := ⟨g, off + i', none⟩) gz).trans d0))
                                  go_simp
                                  first
                                    | exact rfl
                                    | exact hg
                                    | exact ⟨hg, rfl⟩
                                    | ((first
| ((with_reducible refine (K1.out _ hg).mono ?_); rintro e w' ⟨rfl, nq, rfl⟩; exact ⟨rfl, below_drewN hg nq⟩)))
                                intro K hK
                                go_simp
                                refine hK _ ?_
                                clear hK K)
                             | (apply gRow_step
                                · go_simp; done
                                · intro wg hg
                                  ((have x1 := (hg.cell (p := ⟨g, off + (i' + 1), none⟩) gz).trans cz; have x2 := (hg.cell (p := ⟨g, off + i', none⟩) gz).trans d0))
                                  go_simp
                                  first
                                    | exact rfl
                                    | exact hg
                                    | exact ⟨hg, rfl⟩
                                    | ((first
| ((with_reducible refine (K1.out _ hg).mono ?_); rintro e w' ⟨rfl, nq, rfl⟩; exact ⟨rfl, below_drewN hg nq⟩)))
                                intro K hK
                                go_simp
                                refine hK _ ?_
                                clear hK K)
                             | (apply gRow_not
                                · go_simp; done
                                intro K hK
                                go_simp
                                refine hK _ ?_
                                clear hK K)
                    refine gRow_nil ?_
                    rintro w9 hb9
                    have HB9 := Lib.hid (HBX.out.trans (hb9.mono HBX.out.size))
                    clear hb9
                    go_wp2_with fail
                    go_roundw
                    case rel => exact ⟨i' + 1 + 1, by omega, by go_num, HB9⟩
                    case measure => simp [intOf]; omega
            · obtain rfl : i = z := by omega
              have HBX := Lib.hid (B3.out.trans (HB.out.mono B3.out.size))
              go_wp2_with (first
                | (go_at_call 12; (with_reducible refine (awake_any _).mono ?_); rintro e wc ⟨rfl, hb⟩; have Bc := Lib.hid (HBX.out.trans (hb.mono HBX.out.size)); clear hb))
              go_ret
              exact ⟨rfl, Bc.out⟩
end Go.Proofs.Ythljjllcdocfiaa
