/- The walk of the law ErasureGrows. -/
import Derived.Test.YtojfeldafbabeaaSh
import Derived.Test.YtojfeldafbabeaaPw
set_option linter.unusedVariables false
set_option linter.unusedSimpArgs false
set_option linter.unnecessarySimpa false
namespace Go.Proofs.Ytojfeldafbabeaa
open Go.RowKit Go.Mem Go.Deep

set_option maxHeartbeats 2000000 in
theorem grows_law (k m s : Nat) (l : List Nat) (vl : Value) (w : World) (hk : k < 256) (hm : m < 256) (hs : s < 256) (hl : Bytes w vl l) :
    Calls Try.prog 5 #[.int .u8 k, .int .u8 m, .int .u8 s, vl] w (Yes w) := by
  obtain ⟨a, ha⟩ : ∃ a, a = shK k := ⟨_, rfl⟩
  obtain ⟨b, hb⟩ : ∃ b, b = shM k m := ⟨_, rfl⟩
  obtain ⟨n, hn⟩ : ∃ n, n = shN s := ⟨_, rfl⟩
  have hc := sh_code k m
  rw [← ha, ← hb] at hc
  have hcc := codeB_nat hc
  have h1 : 1 ≤ a ∧ a ≤ 6 ∧ b ≤ 4 ∧ a + b ≤ 8 := by obtain ⟨a', b', h1, h2, h3⟩ := hcc; omega
  obtain ⟨h1, h6, h4, h8⟩ := h1
  have hn19 : n ≤ 19 := by rw [hn]; unfold shN; omega
  have HSh := Lib.hid (shape_any k m s l vl w hk hm hs hl)
  rw [← ha, ← hb, ← hn] at HSh
  have HC := Lib.hid hc
  have hc' : Hid (1 ≤ b → codeB (a : Int) ((b - 1 : Nat) : Int) = true) := Lib.hid fun h => by
    unfold codeB
    simp only [Bool.and_eq_true, decide_eq_true_eq]
    omega
  have hc0 : Hid (codeB (a : Int) ((0 : Nat) : Int) = true) := Lib.hid (by
    unfold codeB
    simp only [Bool.and_eq_true, decide_eq_true_eq]
    omega)
  clear ha hb hn hc hcc hl
  by_cases hb0 : b = 0
  · have hd : ((b : Int) == 0) = true := by subst hb0; rfl
    clear hb0
    go_enter Try.func5, Try.ntmps5
    go_wp2_with (first | (go_at_call 18; refine (HSh.out).mono ?_; rintro e w2 ⟨data, v, vs, rfl, hr, hb2, hdl, hdn⟩; (have hm := hr.mat (by omega)); (have HD := Lib.hid hm); (have HB2 := Lib.hid hb2); (have HDL := Lib.hid hdl); (have HLV := Lib.hid (level_of (n := n) (by rw [hdl]; exact hdn))); (have HD0 := Lib.hid (hdn 0 (by omega))); clear hr hb2 hdl hdn hm) | (go_at_call 13; refine (enc_ok a 0 data _ _ HD.out hc0.out HDL.out HLV.out (by rw [HD0.out]; omega)).mono ?_; rintro e w3 ⟨va, vs, rfl, hr, hb3⟩; (have HA := Lib.hid (And.intro (hr.mat (by rw [wordTo_len]; omega)) hb3)); clear hr hb3) | (go_at_call 15; refine (sameRows_any data _ _ _ (by have := HA.out.1; rw [Nat.add_zero, word_data HDL.out (by omega) HLV.out HD.out.low] at this; exact this) (HD.out.below HA.out.2 (Nat.le_refl _))).mono ?_; rintro e w5 ⟨rfl, hb5⟩; have HB5 := Lib.hid hb5; clear hb5) | (go_at_call 12; refine (awake_any _).mono ?_; rintro e wa ⟨rfl, hba⟩; have HBA := Lib.hid hba; clear hba))
    go_ret
    have h2 := HB2.out.size
    have h3 := HA.out.2.size
    have h5 := HB5.out.size
    exact ⟨rfl, ((HB2.out.trans (HA.out.2.mono h2)).trans (HB5.out.mono (by omega))).trans (HBA.out.mono (by omega))⟩
  · have hd : ((b : Int) == 0) = false := by rw [beq_eq_false_iff_ne]; omega
    have hbi : (b : Int) - 1 = ((b - 1 : Nat) : Int) := by omega
    obtain ⟨c, hcb⟩ : ∃ c, c = b - 1 := ⟨_, rfl⟩
    rw [← hcb] at hbi
    obtain ⟨N, hN⟩ : ∃ N, N = a + b := ⟨_, rfl⟩
    have hNi : (a : Int) + b = N := by omega
    have hN1 : (N : Int) - 1 = ((a + c : Nat) : Int) := by omega
    obtain ⟨M, hM⟩ : ∃ M, M = a + c := ⟨_, rfl⟩
    rw [← hM] at hN1
    have hMN : M ≤ N := by omega
    have HN := Lib.hid hN
    have HM := Lib.hid hM
    have hcc := hc'.out (by omega)
    rw [← hcb] at hcc
    have HCC := Lib.hid hcc
    clear hN hM hcc hcb hb0
    go_enter Try.func5, Try.ntmps5
    go_wp2_with (first | (go_at_call 18; refine (HSh.out).mono ?_; rintro e w2 ⟨data, v, vs, rfl, hr, hb2, hdl, hdn⟩; (have hm := hr.mat (by omega)); (have HD := Lib.hid hm); (have HB2 := Lib.hid hb2); (have HDL := Lib.hid hdl); (have HLV := Lib.hid (level_of (n := n) (by rw [hdl]; exact hdn))); (have HD0 := Lib.hid (hdn 0 (by omega))); clear hr hb2 hdl hdn hm) | (have _t := tok1; go_at_call 13; refine (enc_ok a c data _ _ (HD.out.below HA.out.2 (Nat.le_refl _)) HCC.out HDL.out HLV.out (by rw [HD0.out]; omega)).mono ?_; rintro e w4 ⟨vb, vs, rfl, hr, hb4⟩; (have HB := Lib.hid (And.intro (hr.mat (by rw [wordTo_len]; omega)) hb4)); clear hr hb4) | (go_at_call 13; refine (enc_ok a b data _ _ HD.out HC.out HDL.out HLV.out (by rw [HD0.out]; omega)).mono ?_; rintro e w3 ⟨va, vs, rfl, hr, hb3⟩; (have hmm := hr.mat (by rw [wordTo_len]; omega)); (obtain ⟨oa, ocap, hv, hvc, hvl⟩ := Mat.capOf hmm); subst hv; rw [wordTo_len, ← HN.out] at hmm hvc hvl ⊢; (have HA := Lib.hid (And.intro hmm hb3)); have tok1 : True := trivial; clear hr hb3 hmm) | (go_at_call 15; refine (sameRows_any (wordTo a data (a + c)) _ _ _ (by have := mat_take (k := M) (c' := ocap) (HA.out.1.below HB.out.2 (Nat.le_refl _)) (by rw [wordTo_len]) hMN (by omega) (Nat.le_refl _); rw [word_take _ _ hMN, HM.out] at this; rw [HM.out]; exact this) HB.out.1).mono ?_; rintro e w5 ⟨rfl, hb5⟩; have HB5 := Lib.hid hb5; clear hb5) | (go_at_call 12; refine (awake_any _).mono ?_; rintro e wa ⟨rfl, hba⟩; have HBA := Lib.hid hba; clear hba))
    go_ret
    have h2 := HB2.out.size
    have h3 := HA.out.2.size
    have h4 := HB.out.2.size
    have h5 := HB5.out.size
    exact ⟨rfl, (((HB2.out.trans (HA.out.2.mono h2)).trans (HB.out.2.mono (by omega))).trans (HB5.out.mono (by omega))).trans (HBA.out.mono (by omega))⟩
end Go.Proofs.Ytojfeldafbabeaa
