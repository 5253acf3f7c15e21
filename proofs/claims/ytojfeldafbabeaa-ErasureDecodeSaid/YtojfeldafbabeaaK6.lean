/- The walks of Encode, the program's and the reference's. -/
import Derived.Test.YtojfeldafbabeaaK5
import Derived.Test.YtojfeldafbabeaaK1
set_option linter.unusedVariables false
set_option linter.unusedSimpArgs false
set_option linter.unnecessarySimpa false
namespace Go.Proofs.Ytojfeldafbabeaa
open Go.RowKit Go.Mem Go.Deep

/-- the arguments that make a code word -/
def EncOk (k m : Int) (data : List (List Nat)) : Prop := codeB k m = true ∧ (data.length : Int) = k ∧ Level data
theorem codeB_nat {k m : Int} (h : codeB k m = true) : ∃ a b : Nat, k = a ∧ m = b ∧ 1 ≤ a ∧ a ≤ 6 ∧ b ≤ 4 ∧ a + b ≤ 8 := by
  simp [codeB] at h
  exact ⟨k.toNat, m.toNat, by omega, by omega, by omega, by omega, by omega, by omega⟩

/-- rows and OK -/
def EncPost (rows : List (List Nat)) (w : World) (e : Ending) (w' : World) : Prop := ∃ v vs, e = .returned (.tuple #[v, .int .i64 0]) ∧ RowsO w' w.heap.size 31 5 v vs rows ∧ Below w.heap.size w w'
def NilPost (E : Int) (w : World) (e : Ending) (w' : World) : Prop := e = .returned (.tuple #[.slice none 0 0, .int .i64 E]) ∧ Below w.heap.size w w'

set_option maxHeartbeats 1000000 in
theorem enc_ok (k m : Nat) (data : List (List Nat)) (vd : Value) (w : World) (hd : Mat w vd data) (hc : codeB k m = true) (hl : data.length = k) (hv : Level data) (hb : (data.getD 0 []).length ≤ 2000) :
    Calls Try.prog 13 #[.int .i64 k, .int .i64 m, vd] w (EncPost (wordTo k data (k + m)) w) := by
  obtain ⟨a, b, ha, hb', h1, h6, h4, h8⟩ := codeB_nat hc
  have ha : k = a := by omega
  have hb' : m = b := by omega
  subst ha hb'
  obtain ⟨da, dcap, rfl, _⟩ := hd.open
  rw [hl] at hd ⊢
  have hne : ((k : Int) != (k : Int)) = false := by simp
  have hlv : levelB data = true := (levelB_iff data).2 hv
  have HD := Lib.hid hd
  have HL := Lib.hid hl
  have HV := Lib.hid hv
  have HLB := Lib.hid hb
  have HC := Lib.hid hc
  have HLV := Lib.hid hlv
  clear hd hl hv hb hc hlv
  go_enter Try.func13, Try.ntmps13
  go_wp2_with (first | (go_at_call 30; refine (code_any _ _ _).mono ?_; rw [HC.out]; rintro e w2 ⟨rfl, rfl⟩) | (go_at_call 31; refine (level_any data _ _ HD.out).mono ?_; rw [HLV.out]; rintro e w2 ⟨rfl, rfl⟩) | (go_at_call 32; refine (word_any k m data _ _ HD.out h1 h6 h8 HL.out HV.out HLB.out).mono ?_; rintro e w2 ⟨vr, vs, rfl, hr, hb2⟩; have HR := Lib.hid (And.intro hr hb2); clear hr hb2))
  go_ret2
  exact ⟨_, _, rfl, HR.out.1, HR.out.2⟩

set_option maxHeartbeats 1000000 in
theorem enc_bad (k m : Int) (data : List (List Nat)) (vd : Value) (w : World) (hd : Mat w vd data) (hn : ¬ EncOk k m data) :
    Calls Try.prog 13 #[.int .i64 k, .int .i64 m, vd] w (NilPost 1 w) := by
  obtain ⟨da, dcap, rfl, _⟩ := hd.open
  obtain ⟨n, hln⟩ : ∃ n, n = data.length := ⟨_, rfl⟩
  rw [← hln] at hd ⊢
  have HD := Lib.hid hd
  clear hd
  cases hc : codeB k m with
  | false =>
    have HC := Lib.hid hc
    clear hn hc hln
    go_enter Try.func13, Try.ntmps13
    go_wp2_with (first | (go_at_call 30; refine (code_any _ _ _).mono ?_; rw [HC.out]; rintro e w2 ⟨rfl, rfl⟩))
    go_ret2
    exact ⟨rfl, Below.refl _ _⟩
  | true =>
    have HC := Lib.hid hc
    by_cases hnk : (n : Int) = k
    · have hlv : levelB data = false := by
        cases h : levelB data with
        | false => rfl
        | true => exact absurd ⟨hc, by rw [← hln]; exact hnk, (levelB_iff data).1 h⟩ hn
      subst hnk
      have hne : ((n : Int) != (n : Int)) = false := by simp
      have HLV := Lib.hid hlv
      clear hn hc hln hlv
      go_enter Try.func13, Try.ntmps13
      go_wp2_with (first | (go_at_call 30; refine (code_any _ _ _).mono ?_; rw [HC.out]; rintro e w2 ⟨rfl, rfl⟩) | (go_at_call 31; refine (level_any data _ _ HD.out).mono ?_; rw [HLV.out]; rintro e w2 ⟨rfl, rfl⟩))
      go_ret2
      exact ⟨rfl, Below.refl _ _⟩
    · have hne : ((n : Int) != k) = true := by rw [bne_iff_ne]; exact hnk
      clear hn hc hln hnk
      go_enter Try.func13, Try.ntmps13
      go_wp2_with (first | (go_at_call 30; refine (code_any _ _ _).mono ?_; rw [HC.out]; rintro e w2 ⟨rfl, rfl⟩))
      go_ret2
      exact ⟨rfl, Below.refl _ _⟩

set_option maxHeartbeats 1000000 in
theorem refEnc_ok (k m : Nat) (data : List (List Nat)) (vd : Value) (w : World) (hd : Mat w vd data) (hc : codeB k m = true) (hl : data.length = k) (hv : Level data) (hb : (data.getD 0 []).length ≤ 2000) :
    Calls Try.prog 14 #[.int .i64 k, .int .i64 m, vd] w (EncPost (wordTo k data (k + m)) w) := by
  obtain ⟨a, b, ha, hb', h1, h6, h4, h8⟩ := codeB_nat hc
  have ha : k = a := by omega
  have hb' : m = b := by omega
  subst ha hb'
  obtain ⟨da, dcap, rfl, _⟩ := hd.open
  rw [hl] at hd ⊢
  have hne : ((k : Int) != (k : Int)) = false := by simp
  have HD := Lib.hid hd
  have HL := Lib.hid hl
  have HV := Lib.hid hv
  have HLB := Lib.hid hb
  have HC := Lib.hid hc
  clear hd hl hv hb hc
  go_enter Try.func14, Try.ntmps14
  go_wp2_with (first | (go_at_call 33; refine (refCode_any _ _ _).mono ?_; rw [HC.out]; rintro e w2 ⟨rfl, rfl⟩))
  go_loopw [8, 9] (fun v i wr => ∃ (j : Nat) (vs : List Value), j ≤ k + m ∧ i = .int .i64 j ∧ Below w.heap.size w wr ∧ RowsO wr w.heap.size 31 5 v vs (wordTo k data j)) (fun _ i _ => k + m - (intOf i).toNat)
  case atStart =>
    exact ⟨0, [], by omega, rfl, Below.refl _ _, RowsO.nil _ _ _ _⟩
  case round =>
    rename World => wr
    obtain ⟨j, vs, hj, rfl, hbel, hrow⟩ := hrel
    have HB := Lib.hid hbel
    have HR := Lib.hid hrow
    clear hbel hrow
    by_cases hjk : j < k + m
    · go_wp2_with (first | (go_at_call 35; refine (factors_any _ _ _ (by omega) (by omega)).mono ?_; rintro e w2 ⟨vc, rfl, hc1, _, hc2⟩; have HC2 := Lib.hid (And.intro hc1 hc2); clear hc1 hc2) | (go_at_call 34; refine (refCombine_fit (genRow k j) data _ _ _ HC2.out.1 (HD.out.below (HB.out.trans (HC2.out.2.mono HB.out.size)) (Nat.le_refl _)) (fit_gen h1 HL.out HV.out) HLB.out).mono ?_; rintro e w3 ⟨_, rfl, ⟨hc3, ⟨rb, rn, rcap, rc, rfl, _, hc4⟩⟩, hc5⟩; have HR3 := Lib.hid (And.intro (Kept.fresh (B := w.heap.size) hc3 rfl hc4) (And.intro True.intro hc5)); clear hc3 hc4 hc5) | (at_builtin; refine app_row (w0 := w) rfl (.tmp 40) (.tmp 42) rfl (l := GF.comb (genRow k j) data) j ((HR.out.below HC2.out.2).below HR3.out.2.2) (wordTo_len _ _ _) (by omega) HR3.out.1 ((HB.out.trans (HC2.out.2.mono HB.out.size)).trans (HR3.out.2.2.mono (by have := HB.out.size; have := HC2.out.2.size; omega))) (by have := HB.out.size; have := HC2.out.2.size; have := HR3.out.2.2.size; omega) rfl rfl ?_; intro v' w4 h4))
      go_roundw
      case rel =>
        exact ⟨j + 1, _, by omega, by go_num, h4.out.2, by rw [wordTo_succ]; exact h4.out.1⟩
      case measure => simp [intOf]; omega
    · have hje := Lib.hid (show j = k + m by omega)
      go_wp2_with fail
      go_ret2
      exact ⟨_, _, rfl, by rw [← hje.out]; exact HR.out, HB.out⟩

set_option maxHeartbeats 1000000 in
theorem refEnc_bad (k m : Int) (data : List (List Nat)) (vd : Value) (w : World) (hd : Mat w vd data) (hn : ¬ EncOk k m data) :
    Calls Try.prog 14 #[.int .i64 k, .int .i64 m, vd] w (NilPost 1 w) := by
  obtain ⟨da, dcap, rfl, _⟩ := hd.open
  obtain ⟨n, hln⟩ : ∃ n, n = data.length := ⟨_, rfl⟩
  rw [← hln] at hd ⊢
  have HD := Lib.hid hd
  clear hd
  cases hc : codeB k m with
  | false =>
    have HC := Lib.hid hc
    clear hn hc hln
    go_enter Try.func14, Try.ntmps14
    go_wp2_with (first | (go_at_call 33; refine (refCode_any _ _ _).mono ?_; rw [HC.out]; rintro e w2 ⟨rfl, rfl⟩))
    go_ret2
    exact ⟨rfl, Below.refl _ _⟩
  | true =>
    have HC := Lib.hid hc
    by_cases hnk : (n : Int) = k
    · obtain ⟨a, b, ha, rfl, h1, h6, h4, h8⟩ := codeB_nat hc
      have hf : ¬ GF.Fit (genRow n 0) data := fun h => hn ⟨hc, by rw [← hln]; exact hnk, h.2.2⟩
      subst hnk
      have hn6 : 1 ≤ n ∧ n ≤ 6 := by omega
      obtain ⟨hn1, hn6⟩ := hn6
      clear ha
      have hne : ((n : Int) != (n : Int)) = false := by simp
      have HF := Lib.hid hf
      clear hn hc hln hf
      go_enter Try.func14, Try.ntmps14
      go_wp2_with (first | (go_at_call 33; refine (refCode_any _ _ _).mono ?_; rw [HC.out]; rintro e w2 ⟨rfl, rfl⟩))
      go_loopw [8, 9] (fun v i wr => v = .slice none 0 0 ∧ i = .int .i64 0 ∧ wr = w) (fun _ i _ => 0)
      case atStart => exact ⟨rfl, rfl, rfl⟩
      case round =>
        obtain ⟨rfl, rfl, rfl⟩ := hrel
        go_wp2_with (first | (go_at_call 35; refine (factors_any n 0 _ (by omega) (by omega)).mono ?_; rintro e w2 ⟨vc, rfl, hc1, _, hc2⟩; have HC2 := Lib.hid (And.intro hc1 hc2); clear hc1 hc2) | (go_at_call 34; refine (refCombine_fail (genRow n 0) data _ _ _ HC2.out.1 (HD.out.below HC2.out.2 (Nat.le_refl _)) HF.out).mono ?_; rintro e w3 ⟨_, rfl, rfl, hc5⟩; have HR3 := Lib.hid hc5; clear hc5))
        go_ret2
        exact ⟨rfl, HC2.out.2.trans (HR3.out.mono HC2.out.2.size)⟩
    · have hne : ((n : Int) != k) = true := by rw [bne_iff_ne]; exact hnk
      clear hn hc hln hnk
      go_enter Try.func14, Try.ntmps14
      go_wp2_with (first | (go_at_call 33; refine (refCode_any _ _ _).mono ?_; rw [HC.out]; rintro e w2 ⟨rfl, rfl⟩))
      go_ret2
      exact ⟨rfl, Below.refl _ _⟩
end Go.Proofs.Ytojfeldafbabeaa
