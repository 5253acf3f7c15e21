/- The walk of the reference's Rebuild; what Decode and Rebuild answer, program and reference alike. -/
import Derived.Test.YtojfeldafbabeaaRd
import Derived.Test.YtojfeldafbabeaaPd
set_option linter.unusedVariables false
set_option linter.unusedSimpArgs false
set_option linter.unnecessarySimpa false
namespace Go.Proofs.Ytojfeldafbabeaa
open Go.RowKit Go.Mem Go.Deep

theorem refDecode_code (k m : Int) (vf : Value) (w : World) (hc : codeB k m = false) : Calls Try.prog 22 #[.int .i64 k, .int .i64 m, vf] w (NilPost 1 w) := by
  have HC := Lib.hid hc
  clear hc
  go_enter Try.func22, Try.ntmps22
  go_wp2_with (first | (go_at_call 33; refine (refCode_any _ _ _).mono ?_; rw [HC.out]; rintro e w2 ⟨rfl, rfl⟩))
  go_ret2
  exact ⟨rfl, Below.refl _ _⟩

theorem refRebuild_code (k m index : Int) (vf : Value) (w : World) (hc : codeB k m = false) : Calls Try.prog 24 #[.int .i64 k, .int .i64 m, vf, .int .i64 index] w (NilPost 1 w) := by
  have HC := Lib.hid hc
  clear hc
  obtain ⟨x, hx⟩ : ∃ x, x = IntKind.i64.wrap (k + m) := ⟨_, rfl⟩
  cases h1 : decide (index < 0) with
  | true =>
    go_enter Try.func24, Try.ntmps24
    go_wp2_with fail
    go_ret2
    exact ⟨rfl, Below.refl _ _⟩
  | false =>
    go_enter Try.func24, Try.ntmps24
    go_wp2_with (first | (go_at_call 22; refine (refDecode_code _ _ _ _ HC.out).mono ?_; rintro e w2 ⟨rfl, hb⟩; have HB := Lib.hid hb; clear hb))
    all_goals go_ret2
    all_goals first | exact ⟨rfl, Below.refl _ _⟩ | exact ⟨rfl, HB.out⟩

set_option maxHeartbeats 2000000 in
theorem refRebuild_any (k m : Nat) (fs : List Frag) (vf : Value) (index : Int) (w : World) (hf : Frags w vf fs) (hc : codeB k m = true) (hb : ∀ i, i < fs.length → (fragD fs i).2.length ≤ 2000) (h30 : fs.length ≤ 30) (hsh : verdict k m fs = 0 → k ≤ fs.length) :
    Calls Try.prog 24 #[.int .i64 k, .int .i64 m, vf, .int .i64 index] w (RebPost (rebE k m fs index) ((wordOf k m fs).getD index.toNat []) w) := by
  obtain ⟨a, b, ha, hb', h1, h6, h4, h8⟩ := codeB_nat hc
  have ha : k = a := by omega
  have hb' : m = b := by omega
  subst ha hb'
  have HF := Lib.hid hf
  have HC := Lib.hid hc
  have HB := Lib.hid hb
  have HSH := Lib.hid hsh
  clear hf hc hb hsh
  by_cases h0 : index < 0
  · have hd : decide (index < 0) = true := by simpa using h0
    go_enter Try.func24, Try.ntmps24
    go_wp2_with fail
    go_ret2
    exact .inr (by unfold rebE; rw [if_neg (by omega)]; exact ⟨by decide, rfl, Below.refl _ _⟩)
  · have hd : decide (index < 0) = false := by simpa using h0
    by_cases hi : (k : Int) + m ≤ index
    · have hd1 : decide ((k : Int) + m ≤ index) = true := by simpa using hi
      go_enter Try.func24, Try.ntmps24
      go_wp2_with fail
      go_ret2
      exact .inr (by unfold rebE; rw [if_neg (by omega)]; exact ⟨by decide, rfl, Below.refl _ _⟩)
    · obtain ⟨q, rfl⟩ : ∃ q : Nat, index = q := ⟨index.toNat, by omega⟩
      have hd1 : decide ((k : Int) + m ≤ q) = false := by simpa using hi
      have hre : rebE k m fs q = verdict k m fs := by unfold rebE; rw [if_pos (by omega)]
      rw [hre, Int.toNat_natCast]
      obtain ⟨E, hE⟩ : ∃ E, E = verdict k m fs := ⟨_, rfl⟩
      rw [← hE]
      have HE := Lib.hid hE
      obtain ⟨N, hN⟩ : ∃ N, N = k + m := ⟨_, rfl⟩
      have hqN : q < N := by omega
      have HN := Lib.hid hN
      clear hN hE hre h0 hi
      by_cases hz : E = 0
      · have HZ := Lib.hid hz
        have hlen : Hid (((dataOf k fs).getD 0 []).length ≤ 2000) := Lib.hid (by
          have := HSH.out (HE.out.symm.trans hz)
          rw [dataOf_rowlen fs (by omega)]
          exact HB.out 0 (by omega))
        clear hz
        go_enter Try.func24, Try.ntmps24
        go_wp2_with (first | (go_at_call 22; refine (refDecode_any k m fs _ _ HF.out HC.out HB.out h30).mono ?_; rintro e w2 (⟨_, v, rfl, hm, hb2⟩ | ⟨h, _⟩); (have HM := Lib.hid (And.intro hm hb2); clear hm hb2); rotate_left 1; exact absurd (HE.out.symm.trans HZ.out) h) | (go_at_call 14; refine (refEnc_ok k m (dataOf k fs) _ _ HM.out.1 HC.out (dataOf_len _ _) (dataOf_level _ _ h1) hlen.out).mono ?_; rintro e w3 ⟨va, vs, rfl, hr, hb3⟩; (have hmm : Mat w3 va (wordOf k m fs) := hr.mat (by rw [wordTo_len]; omega)); (obtain ⟨oa, ocap, hv, hvc, hvl⟩ := Mat.capOf hmm); subst hv; rw [wordOf_len, ← HN.out] at hmm hvc hvl ⊢; (obtain ⟨rb, ro, rx, he, hrb, hrc, hrx⟩ := hmm.cell (i := q) (by rw [wordOf_len, ← HN.out]; exact hqN)); subst he; (have HW := Lib.hid (And.intro hrx hb3)); clear hr hb3 hmm hrx))
        go_ret2
        exact .inl ⟨HZ.out, _, rfl, HW.out.1, HM.out.2.trans (HW.out.2.mono HM.out.2.size)⟩
      · have hne : (E != 0) = true := by rw [bne_iff_ne]; exact hz
        have HZ := Lib.hid hz
        clear hz
        go_enter Try.func24, Try.ntmps24
        go_wp2_with (first | (go_at_call 22; refine (refDecode_any k m fs _ _ HF.out HC.out HB.out h30).mono ?_; rintro e w2 (⟨h, _⟩ | ⟨_, h, hb2⟩); exact absurd (HE.out.trans h) HZ.out; rw [← HE.out] at h; subst h; have HM := Lib.hid hb2; clear hb2))
        go_ret2
        exact .inr ⟨HZ.out, rfl, HM.out⟩

def DE (E : Int) (D : List (List Nat)) (w : World) (e : Ending) (w' : World) : Prop := ∃ v, e = .returned (.tuple #[v, .int .i64 E]) ∧ Mat w' v D ∧ Below w.heap.size w w'
def BE (E : Int) (b : List Nat) (w : World) (e : Ending) (w' : World) : Prop := ∃ v, e = .returned (.tuple #[v, .int .i64 E]) ∧ Bytes w' v b ∧ Below w.heap.size w w'
theorem de_nil {E : Int} {w : World} {e : Ending} {w' : World} (h : NilPost E w e w') : DE E [] w e w' := ⟨_, h.1, Mat.nil _, h.2⟩
theorem be_nil {E : Int} {w : World} {e : Ending} {w' : World} (h : NilPost E w e w') : BE E [] w e w' := ⟨_, h.1, Bytes.nil _, h.2⟩

theorem verdict_zero {k m : Nat} {fs : List Frag} (h : verdict k m fs = 0) : InR k m fs fs.length ∧ dupTo fs fs.length = false ∧ k ≤ fs.length := by
  unfold verdict at h
  split at h
  · cases h
  · rename_i hI
    split at h
    · cases h
    · rename_i hd
      split at h
      · cases h
      · rename_i hk
        exact ⟨Classical.not_not.1 hI, by simpa using hd, by omega⟩
theorem word_head {k m : Nat} {fs : List Frag} (h1 : 1 ≤ k) (h8 : k + m ≤ 8) (h : verdict k m fs = 0) : (wordOf k m fs).take k = dataOf k fs := by
  obtain ⟨hI, hd, hk⟩ := verdict_zero h
  have hdk : dupTo fs k = false := by
    cases h : dupTo fs k with
    | false => rfl
    | true =>
      obtain ⟨x, y, h1, h2, h3⟩ := (dupTo_iff fs k).1 h
      have := (dupTo_iff fs fs.length).2 ⟨x, y, h1, by omega, h3⟩
      rw [hd] at this; cases this
  unfold wordOf
  rw [word_take _ _ (by omega), word_data (dataOf_len _ _) (by omega) (dataOf_level _ _ h1) (dataOf_low h8 (fun i hi => hI i (by omega)) hdk)]

/-- Decode, program and reference alike -/
theorem decode_alike (k m : Int) (fs : List Frag) (hb : ∀ i, i < fs.length → (fragD fs i).2.length ≤ 2000) (h30 : fs.length ≤ 30) : ∃ E D, (∀ w vf, Frags w vf fs → Calls Try.prog 19 #[.int .i64 k, .int .i64 m, vf] w (DE E D w)) ∧ (∀ w vf, Frags w vf fs → Calls Try.prog 22 #[.int .i64 k, .int .i64 m, vf] w (DE E D w)) := by
  cases hc : codeB k m with
  | false => exact ⟨1, [], fun w vf _ => (decode_code k m fs vf w hc).mono fun _ _ h => de_nil h, fun w vf _ => (refDecode_code k m vf w hc).mono fun _ _ h => de_nil h⟩
  | true =>
    obtain ⟨a, b, rfl, rfl, h1, h6, h4, h8⟩ := codeB_nat hc
    by_cases hv : verdict a b fs = 0
    · refine ⟨0, dataOf a fs, fun w vf hf => (decode_any a b fs vf w hf hc hb h30).mono fun e w' h => ?_, fun w vf hf => (refDecode_any a b fs vf w hf hc hb h30).mono fun e w' h => ?_⟩
      · rcases h with ⟨_, v, rfl, hm, hb2⟩ | ⟨h, _⟩
        · exact ⟨v, rfl, by rw [← word_head h1 h8 hv]; exact hm, hb2⟩
        · exact absurd hv h
      · rcases h with ⟨_, v, rfl, hm, hb2⟩ | ⟨h, _⟩
        · exact ⟨v, rfl, hm, hb2⟩
        · exact absurd hv h
    · refine ⟨verdict a b fs, [], fun w vf hf => (decode_any a b fs vf w hf hc hb h30).mono fun e w' h => ?_, fun w vf hf => (refDecode_any a b fs vf w hf hc hb h30).mono fun e w' h => ?_⟩
      · rcases h with ⟨h, _⟩ | ⟨_, h⟩
        · exact absurd h hv
        · exact de_nil h
      · rcases h with ⟨h, _⟩ | ⟨_, h⟩
        · exact absurd h hv
        · exact de_nil h
/-- Rebuild, program and reference alike -/
theorem rebuild_alike (k m index : Int) (fs : List Frag) (hb : ∀ i, i < fs.length → (fragD fs i).2.length ≤ 2000) (h30 : fs.length ≤ 30) : ∃ E b, (∀ w vf, Frags w vf fs → Calls Try.prog 23 #[.int .i64 k, .int .i64 m, vf, .int .i64 index] w (BE E b w)) ∧ (∀ w vf, Frags w vf fs → Calls Try.prog 24 #[.int .i64 k, .int .i64 m, vf, .int .i64 index] w (BE E b w)) := by
  cases hc : codeB k m with
  | false => exact ⟨1, [], fun w vf _ => (rebuild_code k m index fs vf w hc).mono fun _ _ h => be_nil h, fun w vf _ => (refRebuild_code k m index vf w hc).mono fun _ _ h => be_nil h⟩
  | true =>
    obtain ⟨a, b, rfl, rfl, h1, h6, h4, h8⟩ := codeB_nat hc
    have hsh : verdict a b fs = 0 → a ≤ fs.length := fun h => (verdict_zero h).2.2
    by_cases hv : rebE a b fs index = 0
    · refine ⟨0, (wordOf a b fs).getD index.toNat [], fun w vf hf => (rebuild_any a b fs vf index w hf hc hb h30).mono fun e w' h => ?_, fun w vf hf => (refRebuild_any a b fs vf index w hf hc hb h30 hsh).mono fun e w' h => ?_⟩
      · rcases h with ⟨_, v, rfl, hm, hb2⟩ | ⟨h, _⟩
        · exact ⟨v, rfl, hm, hb2⟩
        · exact absurd hv h
      · rcases h with ⟨_, v, rfl, hm, hb2⟩ | ⟨h, _⟩
        · exact ⟨v, rfl, hm, hb2⟩
        · exact absurd hv h
    · refine ⟨rebE a b fs index, [], fun w vf hf => (rebuild_any a b fs vf index w hf hc hb h30).mono fun e w' h => ?_, fun w vf hf => (refRebuild_any a b fs vf index w hf hc hb h30 hsh).mono fun e w' h => ?_⟩
      · rcases h with ⟨h, _⟩ | ⟨_, h⟩
        · exact absurd h hv
        · exact be_nil h
      · rcases h with ⟨h, _⟩ | ⟨_, h⟩
        · exact absurd h hv
        · exact be_nil h
end Go.Proofs.Ytojfeldafbabeaa
