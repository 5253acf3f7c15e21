/- The walk of the law ErasureSums. -/
import Derived.Test.YtojfeldafbabeaaSh
import Derived.Test.YtojfeldafbabeaaPs
set_option linter.unusedVariables false
set_option linter.unusedSimpArgs false
set_option linter.unnecessarySimpa false
namespace Go.Proofs.Ytojfeldafbabeaa
open Go.RowKit Go.Mem Go.Deep

set_option maxRecDepth 100000 in
set_option maxHeartbeats 8000000 in
theorem sums_law (k m s : Nat) (l l' : List Nat) (c : Nat) (vl vn : Value) (w : World) (hk : k < 256) (hm : m < 256) (hs : s < 256) (hl : Bytes w vl l) (hl' : Bytes w vn l') (hc256 : c < 256) :
    Calls Try.prog 6 #[.int .u8 k, .int .u8 m, .int .u8 s, vl, vn, .int .u8 c] w (Yes w) := by
  obtain ⟨a, ha⟩ : ∃ a, a = shK k := ⟨_, rfl⟩
  obtain ⟨b, hb⟩ : ∃ b, b = shM k m := ⟨_, rfl⟩
  obtain ⟨n, hn⟩ : ∃ n, n = shN s := ⟨_, rfl⟩
  have hc := sh_code k m
  rw [← ha, ← hb] at hc
  have hcc := codeB_nat hc
  have h1 : 1 ≤ a ∧ a ≤ 6 ∧ b ≤ 4 ∧ a + b ≤ 8 := by obtain ⟨a', b', h1, h2, h3⟩ := hcc; omega
  obtain ⟨h1, h6, h4, h8⟩ := h1
  have hn19 : n ≤ 19 := by rw [hn]; unfold shN; omega
  have HShx := Lib.hid (shape_any k m s l vl w hk hm hs hl)
  have HShy := Lib.hid (fun (w2 : World) (h : Below w.heap.size w w2) => shape_any k m s l' vn w2 hk hm hs (hl'.below h (Nat.le_refl _)))
  rw [← ha, ← hb, ← hn] at HShx HShy
  have HC := Lib.hid hc
  obtain ⟨N, hN⟩ : ∃ N, N = a + b := ⟨_, rfl⟩
  have hNi : (a : Int) + b = N := by omega
  have hN1 : 1 ≤ N ∧ N ≤ 8 ∧ a ≤ N := by omega
  obtain ⟨hN1, hN8, haN⟩ := hN1
  have hNN : ((N : Int) != (N : Int)) = false := by simp
  have hnn : ((n : Int) != (n : Int)) = false := by simp
  have HN := Lib.hid hN
  have hmk := run_make_row' (P := Try.prog) 31 5 (.int .u8 0) 1 Try.underlying31 info5 rfl .i64 .i64 n (by omega) (by omega)
  clear ha hb hn hc hcc hl hl' hN
  go_enter Try.func6, Try.ntmps6
  go_wp2_with (first | (have _t := tok1; go_at_call 18; refine (HShy.out _ HB2.out).mono ?_; rintro e w3 ⟨yd, vy, vs, rfl, hr, hb3, hdl, hdn⟩; (have HYD := Lib.hid (hr.mat (by omega))); (have HB3 := Lib.hid hb3); (have HYL := Lib.hid hdl); (have HYN := Lib.hid hdn); clear hr hb3 hdl hdn) | (go_at_call 18; refine (HShx.out).mono ?_; rintro e w2 ⟨xd, vx, vs, rfl, hr, hb2, hdl, hdn⟩; (have HXD := Lib.hid (hr.mat (by omega))); (have HB2 := Lib.hid hb2); (have HXL := Lib.hid hdl); (have HXN := Lib.hid hdn); have tok1 : True := trivial; clear hr hb2 hdl hdn))
  obtain ⟨xo, xocap, hvx, _⟩ := HXD.out.open
  subst hvx
  obtain ⟨yo, yocap, hvy, _⟩ := HYD.out.open
  subst hvy
  have hxl := HXL.out
  have hyl := HYL.out
  rw [hxl] at HXD ⊢
  rw [hyl] at HYD ⊢
  have hX3 := HXD.out.below HB3.out (Nat.le_refl _)
  have HX3 := Lib.hid hX3
  clear hxl hyl hX3 tok1
  have hXlow : Low xd := HX3.out.low
  have HXlow := Lib.hid hXlow
  clear hXlow
  go_loopw [19, 20] (fun v i wr => ∃ (j : Nat) (vs : List Value), j ≤ a ∧ i = .int .i64 j ∧ Below w3.heap.size w3 wr ∧ RowsO wr w3.heap.size 31 5 v vs (zTo c xd yd n j)) (fun _ i _ => a - (intOf i).toNat)
  case atStart => exact ⟨0, [], by omega, rfl, Below.refl _ _, RowsO.nil _ _ _ _⟩
  case round =>
    rename World => wr
    obtain ⟨j, vs, hj, rfl, hbr, hrow⟩ := hrel
    have HBR := Lib.hid hbr
    have HR := Lib.hid hrow
    have hgr := hbr.size
    clear hbr hrow
    by_cases hja : j < a
    · obtain ⟨xb, xbo, xv, he, hxb, hxc, hxv⟩ := HX3.out.cell (i := j) (by rw [HXL.out]; exact hja)
      subst he
      obtain ⟨yb, ybo, yv, he, hyb, hyc, hyv⟩ := HYD.out.cell (i := j) (by rw [HYL.out]; exact hja)
      subst he
      obtain ⟨xa, xcap, rfl, _⟩ := hxv.open
      obtain ⟨ya, ycap, rfl, _⟩ := hyv.open
      rw [HXN.out j hja] at hxc hxv
      rw [HYN.out j hja] at hyc hyv
      have hxc' := (HBR.out.cell (p := ⟨xb, xbo + j, none⟩) hxb).trans hxc
      have HXV := Lib.hid hxv
      have HYV := Lib.hid hyv
      have HXC := Lib.hid hxc
      have HYC := Lib.hid hyc
      clear hxv hyv hxc hyc
      go_wp2_with fail
      go_loopw [22] (fun i wq => ∃ t : Nat, t ≤ n ∧ i = .int .i64 t ∧ Below wr.heap.size wr wq ∧ wq.rowIs wr.heap.size 5 n (fun q => .int .u8 ((if q < t then zVal c xd yd j q else 0 : Nat) : Int))) (fun i _ => n - (intOf i).toNat)
      case atStart => exact ⟨0, by omega, rfl, (Below.refl _ _).alloc (Nat.le_refl _) _, (World.rowIs_made wr (.int .u8 0) n 5).congr (fun i _ => by simp)⟩
      case round =>
        rename World => wq
        obtain ⟨t, ht, rfl, hbq, hrq⟩ := hrel
        have HBQ := Lib.hid hbq
        have HRQ := Lib.hid hrq
        have hgq := hbq.size
        have hb3q : Below w3.heap.size w3 wq := HBR.out.trans (hbq.mono hgr)
        have HB3Q := Lib.hid hb3q
        have hxc2 := (hb3q.cell (p := ⟨xb, xbo + j, none⟩) hxb).trans HXC.out
        have hyc2 := (hb3q.cell (p := ⟨yb, ybo + j, none⟩) hyb).trans HYC.out
        clear hbq hrq hb3q
        by_cases htn : t < n
        · obtain ⟨xab, xao, hxe, hxab, hxt⟩ := HXV.out.cell (i := t) (by rw [HXN.out j hja]; exact htn)
          obtain ⟨yab, yao, hye, hyab, hyt⟩ := HYV.out.cell (i := t) (by rw [HYN.out j hja]; exact htn)
          subst hxe hye
          have hxt' := (HB3Q.out.cell (p := ⟨xab, xao + t, none⟩) hxab).trans hxt
          have hyt' := (HB3Q.out.cell (p := ⟨yab, yao + t, none⟩) hyab).trans hyt
          obtain ⟨x1, hx1⟩ : ∃ x, x = (xd.getD j []).getD t 0 := ⟨_, rfl⟩
          obtain ⟨y1, hy1⟩ : ∃ x, x = (yd.getD j []).getD t 0 := ⟨_, rfl⟩
          rw [← hx1] at hxt'
          rw [← hy1] at hyt'
          have hx256 : x1 < 256 := by rw [hx1]; exact HXV.out.lt t
          have hy256 : y1 < 256 := by rw [hy1]; exact HYV.out.lt t
          have HXY := Lib.hid (show zVal c xd yd j t = x1 ^^^ GF.mul c y1 by unfold zVal; rw [hx1, hy1])
          have hxor := Lib.hid (u8_xor_nat x1 (GF.mul c y1) hx256 (GF.mul_lt hc256))
          have hrc := HRQ.out.cell htn
          have hrf := HRQ.out.frozen t
          rw [if_neg (Nat.lt_irrefl t)] at hrc
          clear hxt hyt hx1 hy1
          go_wp2_with fail
          refine wp_region_still_tail 20 (by kernel_rfl) (by kernel_rfl) ?_
          simp only [List.take_succ_cons, List.take_zero, List.drop_succ_cons, List.drop_zero]
          repeat still_step
          still_call (still (refMul_any c y1 _ hc256 hy256))
          repeat still_step
          refine wpStill_nil ?_
          go_wp2_with fail
          rw [hxor.out]
          go_roundw
          case rel =>
            exact ⟨t + 1, by omega, by go_num, HBQ.out.drew.setCell (Nat.le_refl _) _, (HRQ.out.drew.set t _).congr (fun q _ => by
              by_cases e : q = t
              · subst e; simp [HXY.out]
              · by_cases e2 : q < t
                · simp [e, e2, show q < t + 1 by omega]
                · simp [e, e2, show ¬ q < t + 1 by omega])⟩
          case measure => simp [intOf]; omega
        · have hte := Lib.hid (show t = n by omega)
          have hkept : Kept wq w3.heap.size 5 (.slice (some ⟨wr.heap.size, 0, none⟩) n n) (zRow c xd yd n j) := by
            have h0 := HRQ.out
            obtain ⟨cc, hcc, _⟩ := h0
            have hbs := Bytes.of_row (l := zRow c xd yd n j) (HRQ.out.congr (fun q hq => by rw [if_pos (by have := hte.out; omega), zRow_at _ _ _ _ _ hq])) (by rw [zRow_len]; exact Nat.le_refl _) (by unfold maxLen; omega) (by rw [zRow_len]; omega) (zRow_lt hc256 HXlow.out n j)
            rw [zRow_len] at hbs
            exact Kept.fresh hbs rfl hcc
          have HK := Lib.hid hkept
          clear hkept
          go_wp2_with (at_builtin; refine app_row' (w0 := w3) (W := wq) rfl (.tmp 86) (.tmp 88) rfl (l := zRow c xd yd n j) j (HR.out.below HBQ.out) (zTo_len _ _ _ _ _) (by omega) HK.out HB3Q.out (by omega) (by rfl) rfl rfl ?_; intro v' w4 h4)
          go_roundw
          case rel => exact ⟨j + 1, _, by omega, by go_num, h4.out.2.1, by rw [zTo_succ]; exact h4.out.1⟩
          case measure => simp [intOf]; omega
    · obtain rfl : j = a := by omega
      have hzm := HR.out.mat (by rw [zTo_len]; omega)
      have HZM := Lib.hid hzm
      have HLX := Lib.hid (level_of (n := n) (rows := xd) (by rw [HXL.out]; exact HXN.out))
      have HLY := Lib.hid (level_of (n := n) (rows := yd) (by rw [HYL.out]; exact HYN.out))
      have HLZ := Lib.hid (level_of (n := n) (rows := zTo c xd yd n j) (by rw [zTo_len]; exact fun i hi => by rw [zTo_at _ _ _ _ _ hi, zRow_len]))
      have hx0 := Lib.hid (HXN.out 0 (by omega))
      have hy0 := Lib.hid (HYN.out 0 (by omega))
      have hz0 := Lib.hid (show ((zTo c xd yd n j).getD 0 []).length = n by rw [zTo_at _ _ _ _ _ (by omega), zRow_len])
      obtain ⟨zb0, zbo0, zv0, he, hzb0, hzc0, hzv0⟩ := HX3.out.cell (i := 0) (by rw [HXL.out]; omega)
      subst he
      obtain ⟨za0, zcap0, hzv, _⟩ := hzv0.open
      subst hzv
      rw [hx0.out] at hzc0
      have hzc00 : w3.cell? ⟨zb0, zbo0, none⟩ = some (.slice za0 n zcap0) := hzc0
      have HZC := Lib.hid hzc00
      clear hzm hzc0 hzv0 hzc00
      go_wp2_with (first | (have _t := tokB; go_at_call 13; refine (enc_ok j b (zTo c xd yd n j) _ _ ((HZM.out.below HU.out.2 (Nat.le_refl _)).below HV.out.2 (Nat.le_refl _)) HC.out (zTo_len _ _ _ _ _) HLZ.out (by rw [hz0.out]; omega)).mono ?_; rintro e w7 ⟨va, vs, rfl, hr, hb3⟩; (have hmm := hr.mat (by rw [wordTo_len]; omega)); (obtain ⟨wa, wcap, hv, hvc, hvl⟩ := Mat.capOf hmm); subst hv; rw [wordTo_len, ← HN.out] at hmm hvc hvl ⊢; (have HWW := Lib.hid (And.intro hmm hb3)); clear hr hb3 hmm) | (have _t := tokA; go_at_call 13; refine (enc_ok j b yd _ _ ((HYD.out.below HBR.out (Nat.le_refl _)).below HU.out.2 (Nat.le_refl _)) HC.out HYL.out HLY.out (by rw [hy0.out]; omega)).mono ?_; rintro e w6 ⟨va, vs, rfl, hr, hb3⟩; (have hmm := hr.mat (by rw [wordTo_len]; omega)); (obtain ⟨va, vcap, hv, hvc, hvl⟩ := Mat.capOf hmm); subst hv; rw [wordTo_len, ← HN.out] at hmm hvc hvl ⊢; (have HV := Lib.hid (And.intro hmm hb3)); have tokB : True := trivial; clear hr hb3 hmm) | (go_at_call 13; refine (enc_ok j b xd _ _ (HX3.out.below HBR.out (Nat.le_refl _)) HC.out HXL.out HLX.out (by rw [hx0.out]; omega)).mono ?_; rintro e w5 ⟨va, vs, rfl, hr, hb3⟩; (have hmm := hr.mat (by rw [wordTo_len]; omega)); (obtain ⟨ua, ucap, hv, hvc, hvl⟩ := Mat.capOf hmm); subst hv; rw [wordTo_len, ← HN.out] at hmm hvc hvl ⊢; (have HU := Lib.hid (And.intro hmm hb3)); have tokA : True := trivial; clear hr hb3 hmm))
      have g2 := HB2.out.size
      have g3 := HB3.out.size
      have gr := HBR.out.size
      have g5 := HU.out.2.size
      have g6 := HV.out.2.size
      have g7 := HWW.out.2.size
      have hB27 : Below w.heap.size w w7 := ((((HB2.out.trans (HB3.out.mono g2)).trans (HBR.out.mono (by omega))).trans (HU.out.2.mono (by omega))).trans (HV.out.2.mono (by omega))).trans (HWW.out.2.mono (by omega))
      have HB27 := Lib.hid hB27
      have hB37 : Below w3.heap.size w3 w7 := ((HBR.out.trans (HU.out.2.mono gr)).trans (HV.out.2.mono (by omega))).trans (HWW.out.2.mono (by omega))
      have HZ7 := Lib.hid ((hB37.cell (p := ⟨zb0, zbo0, none⟩) hzb0).trans HZC.out)
      have hU7 := (HU.out.1.below HV.out.2 (Nat.le_refl _)).below HWW.out.2 (Nat.le_refl _)
      have HU7 := Lib.hid hU7
      have hV7 := HV.out.1.below HWW.out.2 (Nat.le_refl _)
      have HV7 := Lib.hid hV7
      have HW7 := Lib.hid HWW.out.1
      have hzb7 : zb0 < w7.heap.size := by omega
      have h0j : 0 < j := by omega
      clear hB27 hB37 hU7 hV7 g2 g3 gr g5 g6 g7
      go_loopw [29] (fun i w8 => ∃ p : Nat, p ≤ N ∧ i = .int .i64 p ∧ Below w7.heap.size w7 w8) (fun i _ => N - (intOf i).toNat)
      case atStart => exact ⟨0, by omega, rfl, Below.refl _ _⟩
      case round =>
        rename World => w8
        obtain ⟨p, hp, rfl, hb8⟩ := hrel
        have HB8 := Lib.hid hb8
        have g8 := hb8.size
        have hzc8 := (hb8.cell (p := ⟨zb0, zbo0, none⟩) hzb7).trans HZ7.out
        clear hb8
        by_cases hpN : p < N
        · obtain ⟨ub, uo, uv, he, hub, huc, huv⟩ := HU7.out.cell (i := p) (by rw [wordTo_len]; exact hpN)
          subst he
          obtain ⟨vb, vo, vv, he, hvb, hvc, hvv⟩ := HV7.out.cell (i := p) (by rw [wordTo_len]; exact hpN)
          subst he
          obtain ⟨wb, wo, wv, he, hwb, hwc, hwv⟩ := HW7.out.cell (i := p) (by rw [wordTo_len]; exact hpN)
          subst he
          obtain ⟨ua, ucap2, rfl, _⟩ := huv.open
          obtain ⟨va, vcap2, rfl, _⟩ := hvv.open
          obtain ⟨wa, wcap2, rfl, _⟩ := hwv.open
          rw [word_rowlen hpN, hx0.out] at huc huv
          rw [word_rowlen hpN, hy0.out] at hvc hvv
          rw [word_rowlen hpN, hz0.out] at hwc hwv
          have huc8 := (HB8.out.cell (p := ⟨ub, uo + p, none⟩) hub).trans huc
          have hvc8 := (HB8.out.cell (p := ⟨vb, vo + p, none⟩) hvb).trans hvc
          have hwc8 := (HB8.out.cell (p := ⟨wb, wo + p, none⟩) hwb).trans hwc
          have HUV := Lib.hid huv
          have HVV := Lib.hid hvv
          have HWV := Lib.hid hwv
          have HUC := Lib.hid huc
          have HVC := Lib.hid hvc
          have HWC := Lib.hid hwc
          clear huv hvv hwv huc hvc hwc
          go_wp2_with fail
          go_still (by kernel_rfl)
          go_wp2_with fail
          clear hzc8 huc8 hvc8 hwc8
          go_loopw [30] (fun i w9 => ∃ t : Nat, t ≤ n ∧ i = .int .i64 t ∧ Below w7.heap.size w7 w9) (fun i _ => n - (intOf i).toNat)
          case atStart => exact ⟨0, by omega, rfl, HB8.out.drew⟩
          case round =>
            rename World => w9
            obtain ⟨t, ht, rfl, hb9⟩ := hrel
            have HB9 := Lib.hid hb9
            have huc9 := (hb9.cell (p := ⟨ub, uo + p, none⟩) hub).trans HUC.out
            have hvc9 := (hb9.cell (p := ⟨vb, vo + p, none⟩) hvb).trans HVC.out
            have hwc9 := (hb9.cell (p := ⟨wb, wo + p, none⟩) hwb).trans HWC.out
            clear hb9
            by_cases htn : t < n
            · obtain ⟨ub2, uo2, he1, hub2, hut⟩ := HUV.out.cell (i := t) (by rw [word_rowlen hpN, hx0.out]; exact htn)
              obtain ⟨vb2, vo2, he2, hvb2, hvt⟩ := HVV.out.cell (i := t) (by rw [word_rowlen hpN, hy0.out]; exact htn)
              obtain ⟨wb2, wo2, he3, hwb2, hwt⟩ := HWV.out.cell (i := t) (by rw [word_rowlen hpN, hz0.out]; exact htn)
              subst he1 he2 he3
              have hut9 := (HB9.out.cell (p := ⟨ub2, uo2 + t, none⟩) hub2).trans hut
              have hvt9 := (HB9.out.cell (p := ⟨vb2, vo2 + t, none⟩) hvb2).trans hvt
              have hwt9 := (HB9.out.cell (p := ⟨wb2, wo2 + t, none⟩) hwb2).trans hwt
              obtain ⟨U, hU⟩ : ∃ U, U = ((wordTo j xd N).getD p []).getD t 0 := ⟨_, rfl⟩
              obtain ⟨V, hV⟩ : ∃ V, V = ((wordTo j yd N).getD p []).getD t 0 := ⟨_, rfl⟩
              have hWq : ((wordTo j (zTo c xd yd n j) N).getD p []).getD t 0 = U ^^^ GF.mul c V := by
                rw [hU, hV, wordTo_getD _ _ _ _ hpN, wordTo_getD _ _ _ _ hpN, wordTo_getD _ _ _ _ hpN]
                exact word_sum h1 (by omega) (by omega) hc256 HXL.out HYL.out HXN.out HYN.out HXlow.out HYD.out.low htn
              have hU256 : U < 256 := by rw [hU]; exact HUV.out.lt t
              have hV256 : V < 256 := by rw [hV]; exact HVV.out.lt t
              rw [← hU] at hut9
              rw [← hV] at hvt9
              rw [hWq] at hwt9
              obtain ⟨M, hM⟩ : ∃ M, M = GF.mul c V := ⟨_, rfl⟩
              have hM256 : M < 256 := by rw [hM]; exact GF.mul_lt hc256
              rw [← hM] at hwt9
              have hcall : Hid (∀ w0 : World, Calls Try.prog 20 #[.int .u8 c, .int .u8 V] w0 fun e w' => e = .returned (.int .u8 (M : Int)) ∧ w0 = w') := Lib.hid fun w0 => by rw [hM]; exact refMul_any c V w0 hc256 hV256
              obtain ⟨G, hG⟩ : ∃ G, G = U ^^^ M := ⟨_, rfl⟩
              rw [← hG] at hwt9
              have hxor : bits .xor .u8 (U : Int) (M : Int) = (G : Int) := by rw [hG]; exact u8_xor_nat U M hU256 hM256
              clear hut hvt hwt hU hV hWq hM hG
              go_wp2_with fail
              refine wp_region_still_lit (by kernel_rfl) (by kernel_rfl) ?_
              repeat still_step
              still_call (still (hcall.out _))
              repeat still_step
              refine wpStill_nil ?_
              go_wp2_with fail
              go_roundw
              case rel => exact ⟨t + 1, by omega, by go_num, HB9.out.drew⟩
              case measure => simp [intOf]; omega
            · go_wp2_with fail
              go_roundw
              case rel => exact ⟨p + 1, by omega, by go_num, HB9.out⟩
              case measure => simp [intOf]; omega
        · go_wp2_with (go_at_call 12; refine (awake_any _).mono ?_; rintro e wa ⟨rfl, hba⟩; have HBA := Lib.hid hba; clear hba)
          go_ret
          have g27 := HB27.out.size
          exact ⟨rfl, (HB27.out.trans (HB8.out.mono g27)).trans (HBA.out.mono (by omega))⟩
end Go.Proofs.Ytojfeldafbabeaa
