/- The walk of the law FieldCombine where Combine does not refuse. -/
import Derived.Test.YtpdjjodehahdoaaC4
namespace Go.Proofs.Ytpdjjodehahdoaa
open Go.RowKit Go.Mem

def lins (c d : List Nat) (x : Nat) : List Nat := (List.range c.length).map fun i => c.getD i 0 ^^^ GF.mul x (d.getD i 0)
def linTo (c d : List Nat) (x k i : Nat) : Nat := if i < k then c.getD i 0 ^^^ GF.mul x (d.getD i 0) else 0
theorem linTo_step (c d : List Nat) (x k i : Nat) : linTo c d x (k + 1) i = if i = k then c.getD k 0 ^^^ GF.mul x (d.getD k 0) else linTo c d x k i := by
  unfold linTo
  by_cases h : i = k
  · subst h; simp
  · by_cases h2 : i < k
    · rw [if_pos (by omega), if_neg h, if_pos h2]
    · rw [if_neg (by omega), if_neg h, if_neg h2]
theorem lins_getD (c d : List Nat) (x i : Nat) (hi : i < c.length) : (lins c d x).getD i 0 = c.getD i 0 ^^^ GF.mul x (d.getD i 0) := by
  unfold lins
  rw [List.getD_eq_getElem?_getD, List.getElem?_map, List.getElem?_range hi]
  rfl
theorem lins_lt {c d : List Nat} {x : Nat} (hc : ∀ v ∈ c, v < 256) (hx : x < 256) : ∀ v ∈ lins c d x, v < 256 := by
  intro v hv
  obtain ⟨i, _, rfl⟩ := List.mem_map.1 hv
  exact GF.xor_lt (GF.getD_lt hc i) (GF.mul_lt hx)

theorem ext {w w1 w2 : World} (h : Below w.heap.size w w1) (k : Below w1.heap.size w1 w2) : Below w.heap.size w w2 := h.trans (k.mono h.size)
theorem comb_len {c : List Nat} {c' : List Nat} {rows : List (List Nat)} {N M : Nat} (hN : N = (GF.comb c' rows).length) (hM : M = N) : (GF.comb c rows).length = M := by
  rw [hM, hN, GF.comb_length, GF.comb_length]

set_option maxHeartbeats 1000000 in
theorem fieldCombine_other (c d : List Nat) (rows : List (List Nat)) (x : Nat) (vc vr vd : Value) (w : World) (hc : Bytes w vc c) (hr : Mat w vr rows) (hd : Bytes w vd d)
    (hl : longB rows = false) (h40 : c.length ≤ 40) (h41 : d.length ≤ 40) (hf : GF.Fit c rows) (hne : d.length ≠ c.length) :
    Calls Try.prog 4 #[vc, vr, vd, .int .u8 x] w (Yes w) := by
  have k1 := Lib.hid (combine_fit c rows vc vr w hc hr hf hl)
  have k2 := Lib.hid (fun w' (hb : Below w.heap.size w w') => refCombine_fit c rows vc vr w' (hc.below hb (Nat.le_refl _)) (hr.below hb (Nat.le_refl _)) hf hl)
  obtain ⟨ca, ccap, rfl, hcl⟩ := hc.open
  obtain ⟨da, dcap, rfl, hdl⟩ := hd.open
  have hne' : ((d.length : Int) != (c.length : Int)) = true := by rw [bne_iff_ne]; omega
  have HR := Lib.hid hr
  have HF := Lib.hid hf
  have HNE := Lib.hid hne
  clear hc hd hr hf hne
  go_enter Try.func4, Try.ntmps4
  go_wp2_with (go_at_call 15; (with_reducible refine (long_any rows _ _ HR.out).mono ?_); rintro e w' ⟨rfl, rfl⟩)
  refine k1.out.mono ?_
  rintro e w1 ⟨v, rfl, hv1, hb1⟩
  obtain ⟨a1, cap1, rfl, hl1⟩ := hv1.open
  obtain ⟨N, hN⟩ : ∃ N, N = (GF.comb c rows).length := ⟨_, rfl⟩
  rw [← hN] at hv1 hl1 ⊢
  have HB1 := Lib.hid hb1
  have HV1 := Lib.hid hv1
  have HN := Lib.hid hN
  clear hb1 hv1 hN
  go_wp2_with fail
  refine (k2.out w1 HB1.out).mono ?_
  rintro e w2 ⟨v, rfl, hv2, hb2⟩
  have HB2 := Lib.hid hb2
  have HV2 := Lib.hid hv2
  obtain ⟨a2, cap2, rfl, hl2⟩ := hv2.open
  obtain ⟨N2, hN2⟩ : ∃ N, N = (GF.comb c rows).length := ⟨_, rfl⟩
  rw [← hN2] at hv2 hl2 ⊢
  have hcv1 := ((HV1.out).below HB2.out (Nat.le_refl _)).conv (P := Try.prog) (src := 29) (e := 5) (dst := 9) Try.underlying29 Try.underlying5 Try.underlying9
  have hcv2 := hv2.conv (P := Try.prog) (src := 29) (e := 5) (dst := 9) Try.underlying29 Try.underlying5 Try.underlying9
  obtain ⟨S, hS⟩ : ∃ S, S = strOf (GF.comb c rows) := ⟨_, rfl⟩
  rw [← hS] at hcv1 hcv2
  clear hb2 hv2 hN2 hS HV2
  go_wp2_with (go_at_call 12; (with_reducible refine (awake_any _).mono ?_); rintro e w' ⟨rfl, rfl⟩)
  go_ret
  exact ⟨rfl, HB1.out.trans (HB2.out.mono HB1.out.size)⟩

set_option maxHeartbeats 1000000 in
theorem fieldCombine_lin (c d : List Nat) (rows : List (List Nat)) (x : Nat) (vc vr vd : Value) (w : World) (hc : Bytes w vc c) (hr : Mat w vr rows) (hd : Bytes w vd d)
    (hl : longB rows = false) (h40 : c.length ≤ 40) (h41 : d.length ≤ 40) (hf : GF.Fit c rows) (hne : d.length = c.length) (hx : x < 256) :
    Calls Try.prog 4 #[vc, vr, vd, .int .u8 x] w (Yes w) := by
  obtain ⟨ca, ccap, rfl, hcl⟩ := hc.open
  obtain ⟨da, dcap, rfl, hdl⟩ := hd.open
  obtain ⟨m, hm⟩ : ∃ m, m = c.length := ⟨_, rfl⟩
  rw [hne, ← hm] at hd h41 ⊢
  rw [← hm] at h40 hc
  have k1 := Lib.hid (combine_fit c rows _ vr w hc hr hf hl)
  have k2 := Lib.hid (fun w' (hb : Below w.heap.size w w') => refCombine_fit c rows _ vr w' (hc.below hb (Nat.le_refl _)) (hr.below hb (Nat.le_refl _)) hf hl)
  have HR := Lib.hid hr
  have HC := Lib.hid hc
  have HD := Lib.hid hd
  have HM := Lib.hid hm
  have HDM := Lib.hid (hne.trans hm.symm)
  have hmm : ((m : Int) != (m : Int)) = false := by simp
  have hmk := run_make_row' (P := Try.prog) 29 5 (.int .u8 0) 1 Try.underlying29 info5 rfl .i64 .i64 m (by omega) (by omega)
  have hfs : GF.Fit (lins c d x) rows := ⟨by simp [lins]; exact hf.1, by simp [lins]; exact hf.2.1, hf.2.2⟩
  have hfd : GF.Fit d rows := ⟨by rw [hne]; exact hf.1, by rw [hne]; exact hf.2.1, hf.2.2⟩
  have K3 := Lib.hid (fun (w' : World) (v : Value) (hb : Below w.heap.size w w') (hv : Bytes w' v (lins c d x)) => combine_fit (lins c d x) rows v vr w' hv (hr.below hb (Nat.le_refl _)) hfs hl)
  have K4 := Lib.hid (fun (w' : World) (hb : Below w.heap.size w w') => combine_fit d rows _ vr w' (hd.below hb (Nat.le_refl _)) (hr.below hb (Nat.le_refl _)) hfd hl)
  have hmp := hf.1
  rw [← hm] at hmp
  have HF := Lib.hid hf
  clear hc hd hr hf hne hm hfs hfd hcl hdl
  go_enter Try.func4, Try.ntmps4
  go_wp2_with (go_at_call 15; (with_reducible refine (long_any rows _ _ HR.out).mono ?_); rintro e w' ⟨rfl, rfl⟩)
  (with_reducible refine k1.out.mono ?_)
  rintro e w1 ⟨v, rfl, hv1, hb1⟩
  obtain ⟨a1, cap1, rfl, hl1⟩ := hv1.open
  obtain ⟨N, hN⟩ : ∃ N, N = (GF.comb c rows).length := ⟨_, rfl⟩
  rw [← hN] at hv1 hl1 ⊢
  have HB1 := Lib.hid hb1
  have HV1 := Lib.hid hv1
  have HN := Lib.hid hN
  clear hb1 hv1 hN
  go_wp2_with fail
  (with_reducible refine (k2.out w1 HB1.out).mono ?_)
  rintro e w2 ⟨v, rfl, hv2, hb2⟩
  have HB2 := Lib.hid hb2
  have HV2 := Lib.hid hv2
  obtain ⟨a2, cap2, rfl, hl2⟩ := hv2.open
  obtain ⟨N2, hN2⟩ : ∃ N, N = (GF.comb c rows).length := ⟨_, rfl⟩
  rw [← hN2] at hv2 hl2 ⊢
  have hcv1 := ((HV1.out).below HB2.out (Nat.le_refl _)).conv (P := Try.prog) (src := 29) (e := 5) (dst := 9) Try.underlying29 Try.underlying5 Try.underlying9
  have hcv2 := hv2.conv (P := Try.prog) (src := 29) (e := 5) (dst := 9) Try.underlying29 Try.underlying5 Try.underlying9
  obtain ⟨S, hS⟩ : ∃ S, S = strOf (GF.comb c rows) := ⟨_, rfl⟩
  rw [← hS] at hcv1 hcv2
  clear hb2 hv2 hN2 hS HV2
  have HB12 := Lib.hid (HB1.out.trans (HB2.out.mono HB1.out.size))
  have hsz2 := HB12.out.size
  go_wp2_with fail
  go_loopw [14] (fun i wr => ∃ k : Nat, k ≤ m ∧ i = .int .i64 k ∧ Below w2.heap.size w2 wr ∧ wr.rowIs w2.heap.size 5 m (fun j => .int .u8 ((linTo c d x k j : Nat) : Int))) (fun i _ => m - (intOf i).toNat)
  case atStart => exact ⟨0, by omega, rfl, (Below.refl _ _).alloc (Nat.le_refl _) _, (World.rowIs_made w2 (.int .u8 0) m 5).congr (fun i _ => by simp [linTo])⟩
  case round =>
    rename World => wr
    obtain ⟨k, hk, rfl, hbel, hrow⟩ := hrel
    have HB3 := Lib.hid hbel
    have HRow := Lib.hid hrow
    clear hbel hrow
    by_cases hkm : k < m
    · obtain ⟨cb, co, rfl, hcb, hck⟩ := (HC.out).cell (i := k) (by have := HM.out; omega)
      obtain ⟨db, dof, rfl, hdb, hdk⟩ := (HD.out).cell (i := k) (by have := HDM.out; omega)
      have hck' := ((HB12.out.trans (HB3.out.mono hsz2)).cell (p := ⟨cb, co + k, none⟩) hcb).trans hck
      have hdk' := ((HB12.out.trans (HB3.out.mono hsz2)).cell (p := ⟨db, dof + k, none⟩) hdb).trans hdk
      obtain ⟨ck, hckd⟩ : ∃ v, v = c.getD k 0 := ⟨_, rfl⟩
      obtain ⟨dk, hdkd⟩ : ∃ v, v = d.getD k 0 := ⟨_, rfl⟩
      rw [← hckd] at hck'
      rw [← hdkd] at hdk'
      have HCK := Lib.hid hckd
      have HDK := Lib.hid hdkd
      have cklt : ck < 256 := by rw [HCK.out]; exact HC.out.lt k
      have dklt : dk < 256 := by rw [HDK.out]; exact HD.out.lt k
      have hX := Lib.hid (u8_xor_nat ck (GF.mul x dk) cklt (GF.mul_lt hx))
      have hcell := HRow.out.cell hkm
      have hfr := HRow.out.frozen k
      clear hck hdk hckd hdkd
      go_wp2_with fail
      refine wp_region_still_tail 14 (by kernel_rfl) (by kernel_rfl) ?_
      simp only [List.take_succ_cons, List.take_zero, List.drop_succ_cons, List.drop_zero]
      repeat still_step
      still_call (still (mul_any x dk _ hx dklt))
      repeat still_step
      refine wpStill_nil ?_
      go_wp2_with fail
      go_roundw
      case rel =>
        exact ⟨k + 1, by omega, by go_num, HB3.out.drew.setCell (Nat.le_refl _) _, (HRow.out.drew.set k _).congr (fun i _ => by
          rw [linTo_step]
          split
          · rw [hX.out, HCK.out, HDK.out]
          · rfl)⟩
      case measure => simp [intOf]; omega
    · have HK := Lib.hid (show k = m by omega)
      have HBw := Lib.hid (HB12.out.trans (HB3.out.mono hsz2))
      have hbs := Bytes.of_row (l := lins c d x) (HRow.out.congr (fun i hi => by
        rw [lins_getD c d x i (by have := HM.out; omega), HK.out]; simp [linTo, hi])) (by simp [lins]; have := HM.out; omega) (by unfold maxLen; omega) (by simp [lins]; have := HM.out; omega) (lins_lt HC.out.2 hx)
      rw [show (lins c d x).length = m by simp [lins]; exact HM.out.symm] at hbs
      have HBS := Lib.hid hbs
      clear hbs
      go_wp2_with fail
      (with_reducible refine (K3.out wr _ HBw.out HBS.out).mono ?_)
      rintro e w4 ⟨v, rfl, hv4, hb4⟩
      have HB4 := Lib.hid hb4
      have HV4 := Lib.hid hv4
      have HBw4 := Lib.hid (HBw.out.trans (HB4.out.mono HBw.out.size))
      obtain ⟨a4, cap4, rfl, hl4⟩ := hv4.open
      have e4 : (GF.comb (lins c d x) rows).length = N := by rw [GF.comb_length, HN.out, GF.comb_length]
      rw [e4]
      clear hb4 hv4 e4 hl4
      go_wp2_with fail
      (with_reducible refine (K4.out w4 HBw4.out).mono ?_)
      rintro e w5 ⟨v, rfl, hv5, hb5⟩
      have HB5 := Lib.hid hb5
      have HV5 := Lib.hid hv5
      have HBw5 := Lib.hid (HBw4.out.trans (HB5.out.mono HBw4.out.size))
      obtain ⟨a5, cap5, rfl, hl5⟩ := hv5.open
      have e5 : (GF.comb d rows).length = N := by rw [GF.comb_length, HN.out, GF.comb_length]
      rw [e5]
      clear hb5 hv5 e5 hl5
      have hNN : ((N : Int) != (N : Int)) = false := by simp
      go_wp2_with fail
      go_loopw [19] (fun q wq => ∃ j : Nat, j ≤ N ∧ q = .int .i64 j ∧ Below w5.heap.size w5 wq) (fun q _ => N - (intOf q).toNat)
      case atStart => exact ⟨0, by omega, rfl, Below.refl _ _⟩
      case round =>
        rename World => wq
        obtain ⟨j, hj, rfl, hb6⟩ := hrel
        have HB6 := Lib.hid hb6
        clear hb6
        by_cases hjN : j < N
        · have E1 := comb_len (c := c) HN.out rfl
          have E4 := comb_len (c := lins c d x) HN.out rfl
          have E5 := comb_len (c := d) HN.out rfl
          have HBy1 := HV1.out.below (ext HB2.out (ext HB3.out (ext HB4.out (ext HB5.out HB6.out)))) (Nat.le_refl _)
          have HBy4 := (HV4.out.below HB5.out (Nat.le_refl _)).below HB6.out (Nat.le_refl _)
          have HBy5 := HV5.out.below HB6.out (Nat.le_refl _)
          obtain ⟨b1, o1, rfl, _, hc1⟩ := HBy1.cell (i := j) (by omega)
          obtain ⟨b4, o4, rfl, _, hc4⟩ := HBy4.cell (i := j) (by omega)
          obtain ⟨b5, o5, rfl, _, hc5⟩ := HBy5.cell (i := j) (by omega)
          have l1 := HBy1.lt j
          have l4 := HBy4.lt j
          have l5 := HBy5.lt j
          have hlin : (GF.comb (lins c d x) rows).getD j 0 = (GF.comb c rows).getD j 0 ^^^ GF.mul x ((GF.comb d rows).getD j 0) := by
            have hj0 : j < (rows.getD 0 []).length := by rw [← GF.comb_length c rows]; omega
            rw [GF.comb_getD _ _ _ hj0, GF.comb_getD _ _ _ hj0, GF.comb_getD _ _ _ hj0]
            exact GF.sumTo_lin rows hx HC.out.2 HD.out.2 HR.out.lt _ _ (fun i hi => lins_getD c d x i (by rw [HF.out.2.1]; exact hi))
          obtain ⟨u1, hu1⟩ : ∃ u, u = (GF.comb c rows).getD j 0 := ⟨_, rfl⟩
          obtain ⟨u4, hu4⟩ : ∃ u, u = (GF.comb (lins c d x) rows).getD j 0 := ⟨_, rfl⟩
          obtain ⟨u5, hu5⟩ : ∃ u, u = (GF.comb d rows).getD j 0 := ⟨_, rfl⟩
          rw [← hu1] at hc1 l1 hlin
          rw [← hu4] at hc4 l4 hlin
          rw [← hu5] at hc5 l5 hlin
          have htest : (((u4 : Nat) : Int) != bits BinOp.xor IntKind.u8 (u1 : Int) ((GF.mul x u5 : Nat) : Int)) = false := by
            rw [u8_xor_nat u1 _ l1 (GF.mul_lt hx), hlin]; simp
          clear hlin hu1 hu4 hu5 HBy1 HBy4 HBy5 E1 E4 E5
          go_wp2_with fail
          refine wp_region_still_lit (by kernel_rfl) (by kernel_rfl) ?_
          repeat still_step
          still_call (still (mul_any x u5 _ hx l5))
          repeat still_step
          refine wpStill_nil ?_
          go_wp2_with fail
          go_roundw
          case rel => exact ⟨j + 1, by omega, by go_num, HB6.out.drew⟩
          case measure => simp [intOf]; omega
        · go_wp2_with (go_at_call 12; (with_reducible refine (awake_any _).mono ?_); rintro e w' ⟨rfl, rfl⟩)
          go_ret
          exact ⟨rfl, HBw5.out.trans (HB6.out.mono HBw5.out.size)⟩


theorem fieldCombine_any (c d : List Nat) (rows : List (List Nat)) (x : Nat) (vc vr vd : Value) (w : World) (hc : Bytes w vc c) (hr : Mat w vr rows) (hd : Bytes w vd d) (hx : x < 256) :
    Calls Try.prog 4 #[vc, vr, vd, .int .u8 x] w (Yes w) := by
  by_cases hg : longB rows = true ∨ 40 < c.length ∨ 40 < d.length
  · exact fieldCombine_guard c d rows x vc vr vd w hc hr hd hg
  · have hl : longB rows = false := by
      cases h : longB rows with
      | false => rfl
      | true => exact absurd (.inl h) hg
    have h40 : c.length ≤ 40 := by
      rcases Nat.lt_or_ge 40 c.length with h | h
      · exact absurd (.inr (.inl h)) hg
      · exact h
    have h41 : d.length ≤ 40 := by
      rcases Nat.lt_or_ge 40 d.length with h | h
      · exact absurd (.inr (.inr h)) hg
      · exact h
    by_cases hf : GF.Fit c rows
    · by_cases hne : d.length = c.length
      · exact fieldCombine_lin c d rows x vc vr vd w hc hr hd hl h40 h41 hf hne hx
      · exact fieldCombine_other c d rows x vc vr vd w hc hr hd hl h40 h41 hf hne
    · exact fieldCombine_fail c d rows x vc vr vd w hc hr hd hl h40 h41 hf

end Go.Proofs.Ytpdjjodehahdoaa
