/- The walk of the law ErasureAny. -/
import Derived.Test.YtojfeldafbabeaaSh
import Derived.Test.YtojfeldafbabeaaPb
set_option linter.unusedVariables false
set_option linter.unusedSimpArgs false
set_option linter.unnecessarySimpa false
namespace Go.Proofs.Ytojfeldafbabeaa
open Go.RowKit Go.Mem Go.Deep

set_option maxRecDepth 100000 in
set_option maxHeartbeats 4000000 in
theorem any_law (k m s : Nat) (l : List Nat) (f z : Nat) (vl : Value) (w : World) (hk : k < 256) (hm : m < 256) (hs : s < 256) (hl : Bytes w vl l) (hf : f < 256) (hz : z < 256) :
    Calls Try.prog 9 #[.int .u8 k, .int .u8 m, .int .u8 s, vl, .int .u8 f, .int .u8 z] w (Yes w) := by
  obtain ⟨a, ha⟩ : ∃ a, a = shK k := ⟨_, rfl⟩
  obtain ⟨b, hb⟩ : ∃ b, b = shM k m := ⟨_, rfl⟩
  obtain ⟨n, hn⟩ : ∃ n, n = shN s := ⟨_, rfl⟩
  have hc := sh_code k m
  rw [← ha, ← hb] at hc
  have hcc := codeB_nat hc
  have h1 : 1 ≤ a ∧ a ≤ 6 ∧ b ≤ 4 ∧ a + b ≤ 8 := by obtain ⟨a', b', h1, h2, h3⟩ := hcc; omega
  obtain ⟨h1, h6, h4, h8⟩ := h1
  have hn19 : n ≤ 19 := by rw [hn]; unfold shN; omega
  have HSh := Lib.hid (shape_any k m s l vl w hk hm hs hl)
  rw [← ha, ← hb, ← hn] at HSh
  have HC := Lib.hid hc
  obtain ⟨N, hN⟩ : ∃ N, N = a + b := ⟨_, rfl⟩
  have hNi : (a : Int) + b = N := by omega
  have hN1 : 1 ≤ N ∧ N ≤ 8 ∧ a ≤ N := by omega
  obtain ⟨hN1, hN8, haN⟩ := hN1
  obtain ⟨f0, hf0⟩ : ∃ x, x = f % N := ⟨_, rfl⟩
  have hfn : f0 < N := by rw [hf0]; exact Nat.mod_lt _ (by omega)
  have hfr : (f : Int).tmod N = f0 := by rw [Int.tmod_eq_emod_of_nonneg (by omega), hf0]; simp
  have hNN : ((N : Int) != (N : Int)) = false := by simp
  have HN := Lib.hid hN
  clear ha hb hn hc hcc hl hN hf0
  go_enter Try.func9, Try.ntmps9
  go_wp2_with (first | (go_at_call 18; refine (HSh.out).mono ?_; rintro e w2 ⟨data, v, vs, rfl, hr, hb2, hdl, hdn⟩; (have hm := hr.mat (by omega)); (have HD := Lib.hid hm); (have HB2 := Lib.hid hb2); (have HDL := Lib.hid hdl); (have HLV := Lib.hid (level_of (n := n) (by rw [hdl]; exact hdn))); (have HD0 := Lib.hid (hdn 0 (by omega))); clear hr hb2 hdl hdn hm) | (go_at_call 13; refine (enc_ok a b data _ _ HD.out HC.out HDL.out HLV.out (by rw [HD0.out]; omega)).mono ?_; rintro e w3 ⟨va, vs, rfl, hr, hb3⟩; (have hmm := hr.mat (by rw [wordTo_len]; omega)); (obtain ⟨oa, ocap, hv, hvc, hvl⟩ := Mat.capOf hmm); subst hv; rw [wordTo_len, ← HN.out] at hmm hvc hvl ⊢; (have HA := Lib.hid (And.intro hmm hb3)); clear hr hb3 hmm) | (go_at_call 25; refine (chosen_any a f0 z (wordTo a data N) _ _ HA.out.1 (by rw [wordTo_len]; exact hN8) (by rw [wordTo_len]; exact haN) (by rw [wordTo_len]; exact hfn) hz).mono ?_; rintro e w4 ⟨is, vf, rfl, hfr4, hb4, hpw, hlt, hkl⟩; rw [wordTo_len] at hfr4 hlt; (have hok := chosen_ok (k := a) (m := b) (f := f0) (data := data) h1 h8 HDL.out HLV.out HD.out.low hpw (by rw [← HN.out]; exact hlt) hkl); rw [← HN.out] at hok; (have hi8 : is.length ≤ N := (chlen hpw hlt)); (have HF := Lib.hid (And.intro hfr4 hb4)); (have HOK := Lib.hid hok); (have HI8 := Lib.hid hi8); clear hfr4 hb4 hpw hlt hok hi8) | (go_at_call 19; refine (decode_any a b _ _ _ HF.out.1 HC.out (chsmall (by rw [HD0.out]; omega)) (by rw [chFs_len]; have := HI8.out; omega)).mono ?_; rw [HOK.out.1, HOK.out.2]; rintro e w5 (⟨_, vd, rfl, hm5, hb5⟩ | ⟨h, _⟩); rotate_left 1; exact absurd rfl h; rw [word_take _ _ haN, word_data HDL.out (by omega) HLV.out HD.out.low] at hm5; (have HM5 := Lib.hid (And.intro hm5 hb5)); clear hm5 hb5) | (go_at_call 15; refine (sameRows_any data _ _ _ HM5.out.1 (((HD.out.below HA.out.2 (Nat.le_refl _)).below HF.out.2 (Nat.le_refl _)).below HM5.out.2 (Nat.le_refl _))).mono ?_; rintro e w6 ⟨rfl, hb6⟩; have HB6 := Lib.hid hb6; clear hb6))
  have h2 := HB2.out.size
  have h3 := HA.out.2.size
  have h4' := HF.out.2.size
  have h5 := HM5.out.2.size
  have h6' := HB6.out.size
  have hB26 : Below w.heap.size w w6 := (((HB2.out.trans (HA.out.2.mono h2)).trans (HF.out.2.mono (by omega))).trans (HM5.out.2.mono (by omega))).trans (HB6.out.mono (by omega))
  have hA6 := ((HA.out.1.below HF.out.2 (Nat.le_refl _)).below HM5.out.2 (Nat.le_refl _)).below HB6.out (Nat.le_refl _)
  have hF6 := (HF.out.1.below HM5.out.2 (Nat.le_refl _)).below HB6.out (Nat.le_refl _)
  have HB26 := Lib.hid hB26
  have HA6 := Lib.hid hA6
  have HF6 := Lib.hid hF6
  clear hB26 hA6 hF6
  go_loopw [21] (fun i w7 => ∃ j : Nat, j ≤ N ∧ i = .int .i64 j ∧ Below w6.heap.size w6 w7) (fun i _ => N - (intOf i).toNat)
  case atStart => exact ⟨0, by omega, rfl, Below.refl _ _⟩
  case round =>
    rename World => w7
    obtain ⟨j, hj, rfl, hb7⟩ := hrel
    have HB7 := Lib.hid hb7
    have h7 := hb7.size
    clear hb7
    by_cases hjN : j < N
    · obtain ⟨ob, oo, y, he, hob, hyc, hy⟩ := HA6.out.cell (i := j) (by rw [wordTo_len]; exact hjN)
      cases he
      obtain ⟨ya, ycap, rfl, _⟩ := hy.open
      have hre : rebE a b (chFs f0 N (wordTo a data N) is) (j : Int) = 0 := by unfold rebE; rw [if_pos (by have := HN.out; omega)]; exact HOK.out.1
      have hro : (wordOf a b (chFs f0 N (wordTo a data N) is)).getD ((j : Int)).toNat [] = (wordTo a data N).getD j [] := by rw [HOK.out.2, Int.toNat_natCast]
      obtain ⟨l1, hl1⟩ : ∃ l, l = (wordTo a data N).getD j [] := ⟨_, rfl⟩
      rw [← hl1] at hro hy hyc
      have HRE := Lib.hid hre
      have HRO := Lib.hid hro
      obtain ⟨n1, hn1⟩ : ∃ n, n = l1.length := ⟨_, rfl⟩
      obtain ⟨S, hS⟩ : ∃ S, S = strOf l1 := ⟨_, rfl⟩
      rw [← hn1] at hyc hy
      have HY := Lib.hid hy
      have HS := Lib.hid hS
      have HYC := Lib.hid hyc
      clear hre hro hy hl1 hn1 hS hyc
      go_wp2_with (go_at_call 23; refine (rebuild_any a b _ _ _ _ (HF6.out.below HB7.out (Nat.le_refl _)) HC.out (chsmall (by rw [HD0.out]; omega)) (by rw [chFs_len]; have := HI8.out; omega)).mono ?_; rw [HRE.out, HRO.out]; rintro e w8 (⟨_, vr, rfl, hm8, hb8⟩ | ⟨h, _⟩); rotate_left 1; exact absurd rfl h; (have hcv1 := (hm8.below (Below.refl _ w8).drew (Nat.le_refl _)).conv (P := Try.prog) (src := 31) (e := 5) (dst := 9) Try.underlying31 Try.underlying5 Try.underlying9); (have hcv2 := (((HY.out.below HB7.out (Nat.le_refl _)).below hb8 (Nat.le_refl _)).below (Below.refl _ w8).drew (Nat.le_refl _)).conv (P := Try.prog) (src := 31) (e := 5) (dst := 9) Try.underlying31 Try.underlying5 Try.underlying9); (have hyc8 := (hb8.cell (p := ⟨ob, oo + j, none⟩) (by show ob < w7.heap.size; omega)).trans ((HB7.out.cell (p := ⟨ob, oo + j, none⟩) hob).trans HYC.out)); rw [← HS.out] at hcv1 hcv2; (have HB8 := Lib.hid (HB7.out.trans (hb8.mono h7))); clear hm8 hb8)
      go_still (by kernel_rfl)
      go_wp2_with fail
      go_roundw
      case rel => exact ⟨j + 1, by omega, by go_num, HB8.out.drew⟩
      case measure => simp [intOf]; omega
    · go_wp2_with (go_at_call 12; refine (awake_any _).mono ?_; rintro e wa ⟨rfl, hba⟩; have HBA := Lib.hid hba; clear hba)
      go_ret
      exact ⟨rfl, (HB26.out.trans (HB7.out.mono (by omega))).trans (HBA.out.mono (by omega))⟩
end Go.Proofs.Ytojfeldafbabeaa
