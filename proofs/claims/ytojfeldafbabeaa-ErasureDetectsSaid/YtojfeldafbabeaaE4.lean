/- The walk of the law ErasureDetects. -/
import Derived.Test.YtojfeldafbabeaaSh
import Derived.Test.YtojfeldafbabeaaPd
import Derived.Test.YtojfeldafbabeaaI3
set_option linter.unusedVariables false
set_option linter.unusedSimpArgs false
set_option linter.unnecessarySimpa false
namespace Go.Proofs.Ytojfeldafbabeaa
open Go.RowKit Go.Mem Go.Deep

theorem owned_bytes {w : World} {B n : Nat} {v : Value} {row : List Nat} (h : w.ownsRow B 5 1 v (0 + n) ([] ++ u8s row)) (hl : row.length = n) (hn : 0 < n) :
    ∃ g cap, v = .slice (some ⟨g, 0, none⟩) n cap ∧ B ≤ g ∧ n ≤ cap ∧ cap ≤ maxLen ∧ OwnT w g 5 n (fun j => .int .u8 ((row.getD j 0 : Nat) : Int)) := by
  rw [Nat.zero_add] at h
  obtain ⟨g, cap, hv, h1, h2, h3, h4⟩ := ownT_of_ownsRow h hn
  exact ⟨g, cap, hv, h1, h2, h3, h4.congr fun j hj => by simp [u8s, show j < row.length by omega]⟩
theorem own_kept {w : World} {B g n cap : Nat} {row : List Nat} (h : OwnT w g 5 n (fun j => .int .u8 ((row.getD j 0 : Nat) : Int))) (hn : n ≤ 100) (hc : n ≤ cap) (hm : cap ≤ maxLen) (hl : row.length = n) (hx : ∀ x ∈ row, x < 256) : Kept w B 5 (.slice (some ⟨g, 0, none⟩) n cap) row := by
  have h0 := h
  obtain ⟨c, hcc, _⟩ := h0
  exact Kept.fresh (h.own.bytes hl (fun i _ => rfl) hc hm (by omega) hx) rfl hcc
set_option maxRecDepth 100000 in
set_option maxHeartbeats 4000000 in
theorem detects_law (k m s : Nat) (l : List Nat) (r t y : Nat) (vl : Value) (w : World) (hk : k < 256) (hm : m < 256) (hs : s < 256) (hl : Bytes w vl l) (hr : r < 256) (ht : t < 256) (hy : y < 256) :
    Calls Try.prog 4 #[.int .u8 k, .int .u8 m, .int .u8 s, vl, .int .u8 r, .int .u8 t, .int .u8 y] w (Yes w) := by
  obtain ⟨a, ha⟩ : ∃ a, a = shK k := ⟨_, rfl⟩
  obtain ⟨b, hb⟩ : ∃ b, b = shM k m := ⟨_, rfl⟩
  obtain ⟨n, hn⟩ : ∃ n, n = shN s := ⟨_, rfl⟩
  have hc := sh_code k m
  rw [← ha, ← hb] at hc
  have hcc := codeB_nat hc
  have h1 : 1 ≤ a ∧ a ≤ 6 ∧ b ≤ 4 ∧ a + b ≤ 8 := by obtain ⟨a', b', h1, h2, h3⟩ := hcc; omega
  obtain ⟨h1, h6, h4, h8⟩ := h1
  have hn19 : n ≤ 19 := by rw [hn]; unfold shN; omega
  have HSh := Lib.hid (shape_any k m s l vl w hk hm hs hl)
  rw [← ha, ← hb, ← hn] at HSh
  have HC := Lib.hid hc
  obtain ⟨N, hN⟩ : ∃ N, N = a + b := ⟨_, rfl⟩
  have hNi : (a : Int) + b = N := by omega
  have hN1 : 1 ≤ N ∧ N ≤ 8 ∧ a ≤ N := by omega
  obtain ⟨hN1, hN8, haN⟩ := hN1
  have hNN : ((N : Int) != (N : Int)) = false := by simp
  have HN := Lib.hid hN
  clear ha hb hn hc hcc hl hN
  by_cases hq : b = 0 ∨ n = 0 ∨ y = 0
  · rcases hq with hq | hq
    · have hb0 : ((b : Int) == 0) = true := by subst hq; rfl
      clear hq
      go_enter Try.func4, Try.ntmps4
      go_wp2_with (first | (go_at_call 18; refine (HSh.out).mono ?_; rintro e w2 ⟨data, v, vs, rfl, hr, hb2, hdl, hdn⟩; (have hm := hr.mat (by omega)); (have HD := Lib.hid hm); (have HB2 := Lib.hid hb2); (have HDL := Lib.hid hdl); (have HLV := Lib.hid (level_of (n := n) (by rw [hdl]; exact hdn))); (have HDN := Lib.hid hdn); clear hr hb2 hdl hdn hm) | (go_at_call 13; refine (enc_ok a b data _ _ HD.out HC.out HDL.out HLV.out (by rw [HDN.out 0 (by omega)]; omega)).mono ?_; rintro e w3 ⟨va, vs, rfl, hr, hb3⟩; (have hmm := hr.mat (by rw [wordTo_len]; omega)); (obtain ⟨oa, ocap, hv, hvc, hvl⟩ := Mat.capOf hmm); subst hv; rw [wordTo_len, ← HN.out] at hmm hvc hvl ⊢; (obtain ⟨zb, zo, zy, hze, hzb, hzc, hzy⟩ := hmm.cell (i := 0) (by rw [wordTo_len]; omega)); subst hze; (obtain ⟨za, zcap, hzy2, _⟩ := hzy.open); subst hzy2; rw [word_rowlen (by omega), HDN.out 0 (by omega)] at hzc; (have hzc0 : w3.cell? ⟨zb, zo, none⟩ = some (.slice za n zcap) := hzc); (have HA := Lib.hid (And.intro hmm hb3)); clear hr hb3 hmm hzy hzc) | (go_at_call 12; refine (awake_any _).mono ?_; rintro e wa ⟨rfl, hba⟩; have HBA := Lib.hid hba; clear hba))
      go_ret
      have h2 := HB2.out.size
      have h3 := HA.out.2.size
      exact ⟨rfl, (HB2.out.trans (HA.out.2.mono h2)).trans (HBA.out.mono (by omega))⟩
    · by_cases hbz : b = 0
      · have hb0 : ((b : Int) == 0) = true := by subst hbz; rfl
        clear hq hbz
        go_enter Try.func4, Try.ntmps4
        go_wp2_with (first | (go_at_call 18; refine (HSh.out).mono ?_; rintro e w2 ⟨data, v, vs, rfl, hr, hb2, hdl, hdn⟩; (have hm := hr.mat (by omega)); (have HD := Lib.hid hm); (have HB2 := Lib.hid hb2); (have HDL := Lib.hid hdl); (have HLV := Lib.hid (level_of (n := n) (by rw [hdl]; exact hdn))); (have HDN := Lib.hid hdn); clear hr hb2 hdl hdn hm) | (go_at_call 13; refine (enc_ok a b data _ _ HD.out HC.out HDL.out HLV.out (by rw [HDN.out 0 (by omega)]; omega)).mono ?_; rintro e w3 ⟨va, vs, rfl, hr, hb3⟩; (have hmm := hr.mat (by rw [wordTo_len]; omega)); (obtain ⟨oa, ocap, hv, hvc, hvl⟩ := Mat.capOf hmm); subst hv; rw [wordTo_len, ← HN.out] at hmm hvc hvl ⊢; (obtain ⟨zb, zo, zy, hze, hzb, hzc, hzy⟩ := hmm.cell (i := 0) (by rw [wordTo_len]; omega)); subst hze; (obtain ⟨za, zcap, hzy2, _⟩ := hzy.open); subst hzy2; rw [word_rowlen (by omega), HDN.out 0 (by omega)] at hzc; (have hzc0 : w3.cell? ⟨zb, zo, none⟩ = some (.slice za n zcap) := hzc); (have HA := Lib.hid (And.intro hmm hb3)); clear hr hb3 hmm hzy hzc) | (go_at_call 12; refine (awake_any _).mono ?_; rintro e wa ⟨rfl, hba⟩; have HBA := Lib.hid hba; clear hba))
        go_ret
        have h2 := HB2.out.size
        have h3 := HA.out.2.size
        exact ⟨rfl, (HB2.out.trans (HA.out.2.mono h2)).trans (HBA.out.mono (by omega))⟩
      · have hb0 : ((b : Int) == 0) = false := by rw [beq_eq_false_iff_ne]; omega
        by_cases hnz : n = 0
        · have hn0 : ((n : Int) == 0) = true := by subst hnz; rfl
          clear hq hnz
          go_enter Try.func4, Try.ntmps4
          go_wp2_with (first | (go_at_call 18; refine (HSh.out).mono ?_; rintro e w2 ⟨data, v, vs, rfl, hr, hb2, hdl, hdn⟩; (have hm := hr.mat (by omega)); (have HD := Lib.hid hm); (have HB2 := Lib.hid hb2); (have HDL := Lib.hid hdl); (have HLV := Lib.hid (level_of (n := n) (by rw [hdl]; exact hdn))); (have HDN := Lib.hid hdn); clear hr hb2 hdl hdn hm) | (go_at_call 13; refine (enc_ok a b data _ _ HD.out HC.out HDL.out HLV.out (by rw [HDN.out 0 (by omega)]; omega)).mono ?_; rintro e w3 ⟨va, vs, rfl, hr, hb3⟩; (have hmm := hr.mat (by rw [wordTo_len]; omega)); (obtain ⟨oa, ocap, hv, hvc, hvl⟩ := Mat.capOf hmm); subst hv; rw [wordTo_len, ← HN.out] at hmm hvc hvl ⊢; (obtain ⟨zb, zo, zy, hze, hzb, hzc, hzy⟩ := hmm.cell (i := 0) (by rw [wordTo_len]; omega)); subst hze; (obtain ⟨za, zcap, hzy2, _⟩ := hzy.open); subst hzy2; rw [word_rowlen (by omega), HDN.out 0 (by omega)] at hzc; (have hzc0 : w3.cell? ⟨zb, zo, none⟩ = some (.slice za n zcap) := hzc); (have HA := Lib.hid (And.intro hmm hb3)); clear hr hb3 hmm hzy hzc) | (go_at_call 12; refine (awake_any _).mono ?_; rintro e wa ⟨rfl, hba⟩; have HBA := Lib.hid hba; clear hba))
          go_ret
          have h2 := HB2.out.size
          have h3 := HA.out.2.size
          exact ⟨rfl, (HB2.out.trans (HA.out.2.mono h2)).trans (HBA.out.mono (by omega))⟩
        · have hn0 : ((n : Int) == 0) = false := by rw [beq_eq_false_iff_ne]; omega
          have hyz : y = 0 := by omega
          have hy0 : ((y : Int) == 0) = true := by subst hyz; rfl
          clear hq hnz hyz
          go_enter Try.func4, Try.ntmps4
          go_wp2_with (first | (go_at_call 18; refine (HSh.out).mono ?_; rintro e w2 ⟨data, v, vs, rfl, hr, hb2, hdl, hdn⟩; (have hm := hr.mat (by omega)); (have HD := Lib.hid hm); (have HB2 := Lib.hid hb2); (have HDL := Lib.hid hdl); (have HLV := Lib.hid (level_of (n := n) (by rw [hdl]; exact hdn))); (have HDN := Lib.hid hdn); clear hr hb2 hdl hdn hm) | (go_at_call 13; refine (enc_ok a b data _ _ HD.out HC.out HDL.out HLV.out (by rw [HDN.out 0 (by omega)]; omega)).mono ?_; rintro e w3 ⟨va, vs, rfl, hr, hb3⟩; (have hmm := hr.mat (by rw [wordTo_len]; omega)); (obtain ⟨oa, ocap, hv, hvc, hvl⟩ := Mat.capOf hmm); subst hv; rw [wordTo_len, ← HN.out] at hmm hvc hvl ⊢; (obtain ⟨zb, zo, zy, hze, hzb, hzc, hzy⟩ := hmm.cell (i := 0) (by rw [wordTo_len]; omega)); subst hze; (obtain ⟨za, zcap, hzy2, _⟩ := hzy.open); subst hzy2; rw [word_rowlen (by omega), HDN.out 0 (by omega)] at hzc; (have hzc0 : w3.cell? ⟨zb, zo, none⟩ = some (.slice za n zcap) := hzc); (have HA := Lib.hid (And.intro hmm hb3)); clear hr hb3 hmm hzy hzc) | (go_at_call 12; refine (awake_any _).mono ?_; rintro e wa ⟨rfl, hba⟩; have HBA := Lib.hid hba; clear hba))
          go_ret
          have h2 := HB2.out.size
          have h3 := HA.out.2.size
          exact ⟨rfl, (HB2.out.trans (HA.out.2.mono h2)).trans (HBA.out.mono (by omega))⟩
  · have hb0 : ((b : Int) == 0) = false := by rw [beq_eq_false_iff_ne]; omega
    have hn0 : ((n : Int) == 0) = false := by rw [beq_eq_false_iff_ne]; omega
    have hy0 : ((y : Int) == 0) = false := by rw [beq_eq_false_iff_ne]; omega
    have hb1 : 1 ≤ b ∧ 1 ≤ n ∧ 0 < y := by omega
    obtain ⟨hb1, hn1, hy1⟩ := hb1
    obtain ⟨p, hp⟩ : ∃ p, p = r % N := ⟨_, rfl⟩
    obtain ⟨t0, ht0⟩ : ∃ t0, t0 = t % n := ⟨_, rfl⟩
    have hpN : p < N := by rw [hp]; exact Nat.mod_lt _ (by omega)
    have htn : t0 < n := by rw [ht0]; exact Nat.mod_lt _ (by omega)
    have hpr : (r : Int).tmod N = p := by rw [Int.tmod_eq_emod_of_nonneg (by omega), hp]; simp
    have htr : (t : Int).tmod n = t0 := by rw [Int.tmod_eq_emod_of_nonneg (by omega), ht0]; simp
    obtain ⟨i5, hi5, hz50, hz51, hz52⟩ := info_parts info5
    clear hq hp ht0
    go_enter Try.func4, Try.ntmps4
    go_wp2_with (first | (go_at_call 18; refine (HSh.out).mono ?_; rintro e w2 ⟨data, v, vs, rfl, hr, hb2, hdl, hdn⟩; (have hm := hr.mat (by omega)); (have HD := Lib.hid hm); (have HB2 := Lib.hid hb2); (have HDL := Lib.hid hdl); (have HLV := Lib.hid (level_of (n := n) (by rw [hdl]; exact hdn))); (have HDN := Lib.hid hdn); clear hr hb2 hdl hdn hm) | (go_at_call 13; refine (enc_ok a b data _ _ HD.out HC.out HDL.out HLV.out (by rw [HDN.out 0 (by omega)]; omega)).mono ?_; rintro e w3 ⟨va, vs, rfl, hr, hb3⟩; (have hmm := hr.mat (by rw [wordTo_len]; omega)); (obtain ⟨oa, ocap, hv, hvc, hvl⟩ := Mat.capOf hmm); subst hv; rw [wordTo_len, ← HN.out] at hmm hvc hvl ⊢; (obtain ⟨zb, zo, zy, hze, hzb, hzc, hzy⟩ := hmm.cell (i := 0) (by rw [wordTo_len]; omega)); subst hze; (obtain ⟨za, zcap, hzy2, _⟩ := hzy.open); subst hzy2; rw [word_rowlen (by omega), HDN.out 0 (by omega)] at hzc; (have hzc0 : w3.cell? ⟨zb, zo, none⟩ = some (.slice za n zcap) := hzc); (have HA := Lib.hid (And.intro hmm hb3)); clear hr hb3 hmm hzy hzc))
    obtain ⟨W, hW⟩ : ∃ W, W = wordTo a data N := ⟨_, rfl⟩
    have HW := Lib.hid hW
    have hWm := HA.out.1
    rw [← hW] at hWm
    have HWm := Lib.hid hWm
    have hWl : W.length = N := by rw [hW, wordTo_len]
    have HWl := Lib.hid hWl
    have hWn : ∀ i, i < N → (W.getD i []).length = n := fun i hi => by rw [hW, word_rowlen hi, HDN.out 0 (by omega)]
    have HWn := Lib.hid hWn
    clear hW hWm hWl hWn
    go_loopw [20, 21] (fun v i wr => ∃ (j : Nat) (ys : Nat → Value), j ≤ N ∧ i = .int .i64 j ∧ Below w3.heap.size w3 wr ∧ FragsO wr w3.heap.size v ys (deFs W p t0 y j)) (fun _ i _ => N - (intOf i).toNat)
    case atStart => exact ⟨0, fun _ => undef, by omega, rfl, Below.refl _ _, FragsO.nil _ _ _⟩
    case round =>
      rename World => wr
      obtain ⟨j, ys, hj, rfl, hbr, hfr⟩ := hrel
      have HBR := Lib.hid hbr
      have HFR := Lib.hid hfr
      have hgr := hbr.size
      clear hbr hfr
      by_cases hjN : j < N
      · obtain ⟨ob, oo, yv, he, hob, hyc, hyv⟩ := HWm.out.cell (i := j) (by rw [HWl.out]; exact hjN)
        cases he
        obtain ⟨row, hrow⟩ : ∃ l, l = W.getD j [] := ⟨_, rfl⟩
        rw [← hrow] at hyv
        have hrl : row.length = n := by rw [hrow]; exact HWn.out j hjN
        obtain ⟨xa, xcap, rfl, _⟩ := hyv.open
        rw [hrl] at hyv hyc
        obtain ⟨xb, xo, rfl, hxb, hxc⟩ := hyv.cell (i := t0) (by omega)
        have hyc' := (HBR.out.cell (p := ⟨zb, zo + j, none⟩) hob).trans hyc
        have HX := Lib.hid (hyv.below HBR.out (Nat.le_refl _))
        have hzbr : zb < wr.heap.size := by omega
        have HRL := Lib.hid hrl
        have HROW := Lib.hid hrow
        obtain ⟨z, hz⟩ : ∃ z, z = row.getD t0 0 := ⟨_, rfl⟩
        have HZ := Lib.hid hz
        have hz256 : z < 256 := by rw [hz]; exact hyv.lt t0
        have hxor := Lib.hid (u8_xor_nat z y hz256 hy)
        have hrx : ∀ x ∈ row, x < 256 := hyv.2
        have HRX := Lib.hid hrx
        clear hyc hyv hrl hrow hxc hz hrx
        by_cases hjp : j = p
        · have hd : ((j : Int) == (p : Int)) = true := by subst hjp; simp
          have HJP := Lib.hid hjp
          clear hjp
          go_wp2_with (first | (at_builtin; refine wpList_append_own _ rfl (.tmp 71) (.tmp 75) 31 rfl wr.heap.size 5 i5 (.int .u8 0) 1 1 Try.underlying31 hi5 hz50 hz51 hz52 rfl (by decide) (.slice (some ⟨wr.heap.size, 0, none⟩) 0 0) 0 [] rfl (World.ownsRow_made wr #[] 0 (Nat.le_refl _) (by decide) rfl) ⟨xb, xo, none⟩ n xcap (u8s row) rfl (by rw [len_u8s, HRL.out]; omega) (by intro j u hu; exact bytes_news (HX.out.below ((Below.refl _ wr).alloc (Nat.le_refl _) _) (Nat.le_refl _)) j u hu) (by intro u hu; exact u8s_one u hu) (by unfold maxLen; omega) (by omega) (by simp) ?_; intro v5 w5 hown5 hgrow5 hnil5; (obtain ⟨g5, cap5, hv5, hbg5, hnc5, hcm5, hog⟩ := owned_bytes hown5 HRL.out (by omega)); subst hv5; (have hB5 : Below wr.heap.size wr w5 := ((Below.refl _ wr).alloc (Nat.le_refl _) _).grown hgrow5 (by simp) (by intro b hb; simp [Value.ownBlock] at hb; omega)); (have hc5 : w5.cell? ⟨g5, t0, none⟩ = some (.int .u8 ((row.getD t0 0 : Nat) : Int)) := hog.cell htn); rw [← HZ.out] at hc5; (have hf5 := hog.frozen t0); (have HO5 := Lib.hid hog); (have HB5 := Lib.hid hB5); clear hown5 hgrow5 hnil5 hog hB5) | (at_builtin; rw [hxor.out]; (have hset := (HO5.out.set t0 (.int .u8 ((z ^^^ y : Nat) : Int))).congr (g := fun q => .int .u8 (((row.set t0 (z ^^^ y)).getD q 0 : Nat) : Int)) (fun q hq => by (by_cases e : q = t0); (subst e; simp [show q < row.length by have := HRL.out; omega]); (simp [e, List.getElem?_set, show ¬ t0 = q by omega]))); refine app_frag (w0 := w3) (W := w5.setCell ⟨g5, t0, none⟩ (.int .u8 ((z ^^^ y : Nat) : Int))) rfl (.tmp 95) (.tmp 99) rfl (l := row.set t0 (z ^^^ y)) j (HFR.out.below (HB5.out.setCell hbg5 _)) (deFs_len _ _ _ _ _) (by omega) (own_kept hset (by omega) hnc5 hcm5 (by simp; exact HRL.out) (fun x hx => by rcases List.mem_or_eq_of_mem_set hx with h | h; exact HRX.out x h; (rw [h]; exact GF.xor_lt hz256 hy))) (((HBR.out.trans (HB5.out.mono hgr))).setCell (by show w3.heap.size ≤ g5; omega) _) (by have := HB5.out.size; simp; omega) (by simp) rfl rfl ?_; intro v6 w6 h6))
          go_roundw
          case rel => exact ⟨j + 1, _, by omega, by go_num, h6.out.2.1, by rw [deFs_succ]; (have : chRow W p t0 y j = row.set t0 (z ^^^ y) := by unfold chRow; rw [if_pos HJP.out, ← HROW.out, ← HZ.out]); rw [this]; exact h6.out.1⟩
          case measure => simp [intOf]; omega
        · have hd : ((j : Int) == (p : Int)) = false := by rw [beq_eq_false_iff_ne]; omega
          have HJP := Lib.hid hjp
          clear hjp
          go_wp2_with (first | (at_builtin; refine wpList_append_own _ rfl (.tmp 71) (.tmp 75) 31 rfl wr.heap.size 5 i5 (.int .u8 0) 1 1 Try.underlying31 hi5 hz50 hz51 hz52 rfl (by decide) (.slice (some ⟨wr.heap.size, 0, none⟩) 0 0) 0 [] rfl (World.ownsRow_made wr #[] 0 (Nat.le_refl _) (by decide) rfl) ⟨xb, xo, none⟩ n xcap (u8s row) rfl (by rw [len_u8s, HRL.out]; omega) (by intro j u hu; exact bytes_news (HX.out.below ((Below.refl _ wr).alloc (Nat.le_refl _) _) (Nat.le_refl _)) j u hu) (by intro u hu; exact u8s_one u hu) (by unfold maxLen; omega) (by omega) (by simp) ?_; intro v5 w5 hown5 hgrow5 hnil5; (obtain ⟨g5, cap5, hv5, hbg5, hnc5, hcm5, hog⟩ := owned_bytes hown5 HRL.out (by omega)); subst hv5; (have hB5 : Below wr.heap.size wr w5 := ((Below.refl _ wr).alloc (Nat.le_refl _) _).grown hgrow5 (by simp) (by intro b hb; simp [Value.ownBlock] at hb; omega)); (have hc5 : w5.cell? ⟨g5, t0, none⟩ = some (.int .u8 ((row.getD t0 0 : Nat) : Int)) := hog.cell htn); rw [← HZ.out] at hc5; (have hf5 := hog.frozen t0); (have HO5 := Lib.hid hog); (have HB5 := Lib.hid hB5); clear hown5 hgrow5 hnil5 hog hB5) | (at_builtin; refine app_frag (w0 := w3) (W := w5) rfl (.tmp 95) (.tmp 99) rfl (l := row) j (HFR.out.below HB5.out) (deFs_len _ _ _ _ _) (by omega) (own_kept HO5.out (by omega) hnc5 hcm5 HRL.out HRX.out) (HBR.out.trans (HB5.out.mono hgr)) (by have := HB5.out.size; omega) (by rfl) rfl rfl ?_; intro v6 w6 h6))
          go_roundw
          case rel => exact ⟨j + 1, _, by omega, by go_num, h6.out.2.1, by rw [deFs_succ]; (have : chRow W p t0 y j = row := by unfold chRow; rw [if_neg HJP.out, HROW.out]); rw [this]; exact h6.out.1⟩
          case measure => simp [intOf]; omega
      · obtain rfl : j = N := by omega
        have hDW : verdict a b (deFs W p t0 y j) = 11 := by
          have h := verdict_changed (k := a) (m := b) (p := p) (t := t0) (y := y) (n := n) (data := data) h1 hb1 h8 HDL.out HDN.out HD.out.low (by have := HN.out; omega) htn hy1 hy
          rw [← HN.out, ← HW.out] at h
          exact h
        have HDW := Lib.hid hDW
        have hfr := HFR.out.frags (by rw [deFs_len]; omega)
        have HFG := Lib.hid hfr
        have hsm : Hid (∀ i, i < (deFs W p t0 y j).length → (fragD (deFs W p t0 y j) i).2.length ≤ 2000) := Lib.hid (fun i hi => by
          rw [deFs_len] at hi
          rw [deFs_at hi]
          show (chRow W p t0 y i).length ≤ 2000
          rw [chRow_len, HWn.out i hi]; omega)
        clear hDW hfr
        go_wp2_with (first | (go_at_call 19; refine (decode_any a b _ _ _ HFG.out HC.out hsm.out (by rw [deFs_len]; omega)).mono ?_; rw [HDW.out]; rintro e w8 (⟨h, _⟩ | ⟨_, rfl, hb8⟩); exact absurd h (by decide); (have HB8 := Lib.hid hb8); clear hb8) | (go_at_call 12; refine (awake_any _).mono ?_; rintro e wa ⟨rfl, hba⟩; have HBA := Lib.hid hba; clear hba))
        go_ret
        have h2 := HB2.out.size
        have h3 := HA.out.2.size
        have h5 := HBR.out.size
        have h9 := HB8.out.size
        exact ⟨rfl, (((HB2.out.trans (HA.out.2.mono h2)).trans (HBR.out.mono (by omega))).trans (HB8.out.mono (by omega))).trans (HBA.out.mono (by omega))⟩
end Go.Proofs.Ytojfeldafbabeaa
