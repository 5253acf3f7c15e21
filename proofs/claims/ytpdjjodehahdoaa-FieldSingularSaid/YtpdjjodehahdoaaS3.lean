/- The walk of the law FieldInverse. -/
import Derived.Test.YtpdjjodehahdoaaS2
import Derived.Test.YtpdjjodehahdoaaC5
namespace Go.Proofs.Ytpdjjodehahdoaa
open Go.RowKit Go.Mem Go.Deep

theorem sz_const {rows : List (List Nat)} {n : Nat} (h : ∀ i, i < rows.length → (rows.getD i []).length = n) : ∀ k, k ≤ rows.length → sz rows k = k * n
  | 0, _ => by simp [sz]
  | k + 1, hk => by
    show sz rows k + (rows.getD k []).length = _
    rw [sz_const h k (by omega), h k (by omega), Nat.succ_mul]
theorem lst_short {n : Nat} (t : Nat → Nat → GF.F) (h : n ≤ 8) : longB (lst n t) = false := by
  unfold longB
  rw [lst_length, sz_const (n := n) (fun i hi => lst_rowlen t (by rwa [lst_length] at hi)) n (by rw [lst_length]; omega)]
  have : n * n ≤ 64 := Nat.le_trans (Nat.mul_le_mul h h) (by decide)
  simp
  omega

/-- the rest of the law, once the inverse is there -/
def dlv (i j : Nat) : Nat := if i = j then 1 else 0
theorem dl_v (i j : Nat) : (GF.dl i j).v = dlv i j := by unfold GF.dl dlv; split <;> rfl

set_option maxHeartbeats 4000000 in
set_option maxRecDepth 100000 in
theorem fieldInverse_any (n : Nat) (l : List Nat) (vl : Value) (w : World) (hn : n < 256) (hl : Bytes w vl l) :
    Calls Try.prog 9 #[.int .u8 n, vl] w (Yes w) := by
  obtain ⟨K, hK⟩ : ∃ K, K = 1 + n % 8 := ⟨_, rfl⟩
  have h1 : 1 ≤ K := by omega
  have h8 : K ≤ 8 := by omega
  have HK := Lib.hid hK
  have HL := Lib.hid hl
  clear hK hl
  go_enter Try.func9, Try.ntmps9
  go_wp2_with fail
  rw [show (1 + (n : Int) % 8) = (K : Int) by have := HK.out; omega]
  refine (square_any K l vl w HL.out h1 h8).mono ?_
  rintro e w1 ⟨R, cap, G, C, rfl, hc1, hc2, hg, hb1⟩
  have hma : Mat w1 (.slice (some ⟨R, 0, none⟩) K cap) (lst K (sqF K l)) := hg.mat hc1 hc2 (by omega) (by omega)
  have HMA := Lib.hid hma
  have HB1 := Lib.hid hb1
  clear hg hb1 hma HK HL
  go_wp2_with fail
  refine (invert_sq (lst K (sqF K l)) K _ w1 HMA.out (lst_length _ _) h1 (by omega) (fun i hi => lst_rowlen _ hi)).mono ?_
  rintro e w2 (⟨u, vx, hu, rfl, hmx, hb2⟩ | ⟨hu, rfl, hb2⟩)
  · obtain ⟨hinv1, hinv2⟩ := GF.gjTo_some hu
    obtain ⟨A, hA⟩ : ∃ A, A = ent (lst K (sqF K l)) := ⟨_, rfl⟩
    obtain ⟨X, hX⟩ : ∃ X : Nat → Nat → GF.F, X = fun i j => u i (K + j) := ⟨_, rfl⟩
    rw [outRows_eq, ← hX] at hmx
    rw [← hA] at hinv1 hinv2
    have hx1 : ∀ i j, i < K → j < K → GF.sm K (fun k => X i k * A k j) = GF.dl i j := fun i j hi hj => by rw [hX]; exact hinv1 i j hi hj
    have hx2 : ∀ i j, i < K → j < K → GF.sm K (fun k => A i k * X k j) = GF.dl i j := fun i j hi hj => by rw [hX]; exact hinv2 i j hi hj
    have hal : lst K (sqF K l) = lst K A := lst_congr fun i j hi hj => by rw [hA, ent_lst _ hi hj]
    obtain ⟨vxa, vxc, rfl, hvxl⟩ := hmx.open
    rw [lst_length] at hmx hvxl ⊢
    have HMA2 := Lib.hid (show Mat w2 (.slice (some ⟨R, 0, none⟩) K cap) (lst K A) by rw [← hal]; exact HMA.out.below hb2 (Nat.le_refl _))
    have HMX := Lib.hid hmx
    have HX1 := Lib.hid hx1
    have HX2 := Lib.hid hx2
    have HB2 := Lib.hid (ext HB1.out hb2)
    have hKK : ((K : Int) != (K : Int)) = false := by simp
    clear hinv1 hinv2 hA hX hmx hx1 hx2 hal hb2 hu
    go_wp2_with fail
    go_loopw [9] (fun q wr => ∃ i : Nat, i ≤ K ∧ q = .int .i64 i ∧ Below w2.heap.size w2 wr) (fun q _ => K - (intOf q).toNat)
    case atStart => exact ⟨0, by omega, rfl, Below.refl _ _⟩
    case round =>
      rename World => wr
      obtain ⟨i, hi, rfl, hb3⟩ := hrel
      have HB3 := Lib.hid hb3
      clear hb3
      by_cases hiK : i < K
      · have hma3 := HMA2.out.below HB3.out (Nat.le_refl _)
        have hmx3 := HMX.out.below HB3.out (Nat.le_refl _)
        obtain ⟨_, _, xa, hea, hab, hxa, hba⟩ := hma3.cell (i := i) (by rw [lst_length]; exact hiK)
        obtain ⟨xb, xo, xx, rfl, hxb, hxx, hbx⟩ := hmx3.cell (i := i) (by rw [lst_length]; exact hiK)
        cases hea
        have HBA := Lib.hid hba
        have HBX := Lib.hid hbx
        have HM3 := Lib.hid hmx3
        have HA3 := Lib.hid hma3
        have hxx4 := Lib.hid hxx
        clear hba hbx hmx3 hma3 hxx
        rw [Nat.zero_add] at hxa
        go_wp2_with fail
        refine (combine_fit _ _ xa _ wr HBA.out HM3.out (fit_lst A X h1 hiK) (lst_short X h8)).mono ?_
        rintro e w4 ⟨vp, rfl, hvp, hb4⟩
        have hxx5 := (hb4.cell (p := ⟨xb, xo + i, none⟩) hxb).trans hxx4.out
        have HB4 := Lib.hid hb4
        have HVP := Lib.hid hvp
        obtain ⟨pa, pc, rfl, _⟩ := hvp.open
        rw [comb_lst_length A X h1]
        clear hb4 hvp hxa
        go_wp2_with fail
        refine (combine_fit _ _ xx _ w4 (HBX.out.below HB4.out (Nat.le_refl _)) (HA3.out.below HB4.out (Nat.le_refl _)) (fit_lst X A h1 hiK) (lst_short A h8)).mono ?_
        rintro e w5 ⟨vq, rfl, hvq, hb5⟩
        have HB5 := Lib.hid hb5
        have HVQ := Lib.hid hvq
        have HVP5 := Lib.hid (HVP.out.below hb5 (Nat.le_refl _))
        obtain ⟨qa, qc, rfl, _⟩ := hvq.open
        rw [comb_lst_length X A h1]
        clear hb5 hvq hxx5
        go_wp2_with fail
        go_loop [14, 15] (fun q _ => ∃ j : Nat, j ≤ K ∧ q = .int .i64 j) (fun q _ => K - (intOf q).toNat)
        case atStart => exact ⟨0, by omega, rfl⟩
        case round =>
          obtain ⟨j, hj, rfl⟩ := hrel
          by_cases hjK : j < K
          · obtain ⟨pb, po, rfl, _, hcp⟩ := HVP5.out.cell (i := j) (by rw [comb_lst_length A X h1]; exact hjK)
            obtain ⟨qb, qo, rfl, _, hcq⟩ := HVQ.out.cell (i := j) (by rw [comb_lst_length X A h1]; exact hjK)
            rw [comb_lst A X h1 hiK hjK, HX2.out i j hiK hjK, dl_v] at hcp
            rw [comb_lst X A h1 hiK hjK, HX1.out i j hiK hjK, dl_v] at hcq
            by_cases hij : i = j
            · have hd : dlv i j = 1 := by unfold dlv; rw [if_pos hij]
              rw [hd] at hcp hcq
              have ht : ((i : Int) == (j : Int)) = true := by rw [hij]; simp
              have HIJ := Lib.hid hij
              clear hij hd
              go_wp2_with fail
              go_round
              case rel => exact ⟨j + 1, by omega, by go_num⟩
              case measure => simp [intOf]; omega
            · have hd : dlv i j = 0 := by unfold dlv; rw [if_neg hij]
              rw [hd] at hcp hcq
              have ht : ((i : Int) == (j : Int)) = false := by rw [beq_eq_false_iff_ne]; omega
              clear hd
              go_wp2_with fail
              go_round
              case rel => exact ⟨j + 1, by omega, by go_num⟩
              case measure => simp [intOf]; omega
          · go_wp2_with fail
            go_roundw
            case rel => exact ⟨i + 1, by omega, by go_num, ext HB3.out (ext HB4.out HB5.out)⟩
            case measure => simp [intOf]; omega
      · obtain ⟨wi, hwi, hback⟩ := inv_of_pair (n := K) (a := A) (x := ent (lst K X))
          (fun i j hi hj => by rw [GF.sm_congr (g := fun k => X i k * A k j) fun k hk => by rw [ent_lst X hi hk]]; exact HX1.out i j hi hj)
          (fun i j hi hj => by rw [GF.sm_congr (g := fun k => A i k * X k j) fun k hk => by rw [ent_lst X hk hj]]; exact HX2.out i j hi hj)
        have HWI := Lib.hid hwi
        have HBK := Lib.hid hback
        clear hwi hback
        go_wp2_with fail
        refine (invert_sq (lst K X) K _ wr (HMX.out.below HB3.out (Nat.le_refl _)) (lst_length _ _) h1 (by omega) (fun i hi => lst_rowlen _ hi)).mono ?_
        rintro e w6 (⟨u6, vy, hu6, rfl, hmy, hb6⟩ | ⟨hu6, rfl, hb6⟩)
        · have hue : u6 = wi := by
            have := hu6.symm.trans HWI.out
            exact Option.some.inj this
          have hyr : outRows K u6 = lst K A := by
            rw [outRows_eq, hue]
            exact lst_congr fun i j hi hj => HBK.out i j hi hj
          rw [hyr] at hmy
          have HMY := Lib.hid hmy
          have HMA6 := Lib.hid ((HMA2.out.below HB3.out (Nat.le_refl _)).below hb6 (Nat.le_refl _))
          have HB6 := Lib.hid hb6
          clear hu6 hue hyr hmy hb6
          go_wp2_with fail
          refine (sameRows_any (lst K A) _ _ w6 HMY.out HMA6.out).mono ?_
          rintro e w7 ⟨rfl, hb7⟩
          have HB7 := Lib.hid hb7
          clear hb7
          go_wp2_with (go_at_call 12; (with_reducible refine (awake_any _).mono ?_); rintro e w' ⟨rfl, rfl⟩)
          go_ret
          exact ⟨rfl, ext HB2.out (ext HB3.out (ext HB6.out HB7.out))⟩
        · exact absurd (hu6.symm.trans HWI.out) (by simp)
  · go_wp2_with (go_at_call 12; (with_reducible refine (awake_any _).mono ?_); rintro e w' ⟨rfl, rfl⟩)
    go_ret
    exact ⟨rfl, ext HB1.out hb2⟩

end Go.Proofs.Ytpdjjodehahdoaa
