/- The walks of Decode and Rebuild. -/
import Derived.Test.YtojfeldafbabeaaWh
set_option linter.unusedVariables false
set_option linter.unusedSimpArgs false
set_option linter.unnecessarySimpa false
namespace Go.Proofs.Ytojfeldafbabeaa
open Go.RowKit Go.Mem Go.Deep

theorem mat_take {w : World} {a : Option Addr} {n k cap c' : Nat} {rows : List (List Nat)} (h : Mat w (.slice a n cap) rows) (hn : rows.length = n) (hk : k ≤ n) (hc : k ≤ c') (hc' : c' ≤ cap) : Mat w (.slice a k c') (rows.take k) := by
  obtain ⟨us, ⟨a', c, q, h1, h2, h4, h3⟩, hl, hb⟩ := h
  rw [hn] at hl
  rw [hl] at q h1 h4
  cases q
  refine ⟨us.take k, ⟨a, c', by simp [hl, Nat.min_eq_left hk], by simp; omega, by omega, by simp; omega, ?_⟩, by simp [hn, hl, Nat.min_eq_left hk], fun i x r hx hr => ?_⟩
  · by_cases h0 : k = 0
    · left; simp [h0]
    · right
      rcases h3 with h3 | ⟨b, off, q, hlt, hc⟩
      · rw [h3] at hl; simp at hl; omega
      · refine ⟨b, off, q, hlt, fun i hi => ?_⟩
        simp at hi
        have hik : i < k := by omega
        rw [hc i (by omega), List.getElem?_take, if_pos hik]
  · have hi : i < k := by
      rcases Nat.lt_or_ge i k with h | h
      · exact h
      · rw [List.getElem?_eq_none (by simp; omega)] at hr; cases hr
    rw [List.getElem?_take, if_pos hi] at hx hr
    exact hb i x r hx hr
theorem Mat.capOf {w : World} {v : Value} {r : List (List Nat)} (h : Mat w v r) : ∃ a cap, v = .slice a r.length cap ∧ r.length ≤ cap ∧ r.length ≤ 140737488351232 := by
  obtain ⟨vs, ⟨a, cap, rfl, h1, _, h4, _⟩, h2, _⟩ := h
  rw [h2] at h1 h4 ⊢
  exact ⟨a, cap, rfl, h1, h4⟩

/-- rows and OK, or nothing and the error E -/
def DecPost (E : Int) (rows : List (List Nat)) (w : World) (e : Ending) (w' : World) : Prop :=
  (E = 0 ∧ ∃ v, e = .returned (.tuple #[v, .int .i64 0]) ∧ Mat w' v rows ∧ Below w.heap.size w w') ∨ (E ≠ 0 ∧ NilPost E w e w')
def RebPost (E : Int) (row : List Nat) (w : World) (e : Ending) (w' : World) : Prop :=
  (E = 0 ∧ ∃ v, e = .returned (.tuple #[v, .int .i64 0]) ∧ Bytes w' v row ∧ Below w.heap.size w w') ∨ (E ≠ 0 ∧ NilPost E w e w')

theorem wordOf_len (k m : Nat) (fs : List Frag) : (wordOf k m fs).length = k + m := by unfold wordOf; rw [wordTo_len]

theorem decode_code (k m : Int) (fs : List Frag) (vf : Value) (w : World) (hc : codeB k m = false) : Calls Try.prog 19 #[.int .i64 k, .int .i64 m, vf] w (NilPost 1 w) := by
  have HC := Lib.hid hc
  clear hc
  go_enter Try.func19, Try.ntmps19
  go_wp2_with (first | (go_at_call 38; refine (whole_code _ _ fs _ _ HC.out).mono ?_; rintro e w2 ⟨rfl, hb⟩; have HB := Lib.hid hb; clear hb))
  go_ret2
  exact ⟨rfl, HB.out⟩

set_option maxHeartbeats 1000000 in
theorem decode_any (k m : Nat) (fs : List Frag) (vf : Value) (w : World) (hf : Frags w vf fs) (hc : codeB k m = true) (hb : ∀ i, i < fs.length → (fragD fs i).2.length ≤ 2000) (h30 : fs.length ≤ 30) :
    Calls Try.prog 19 #[.int .i64 k, .int .i64 m, vf] w (DecPost (verdict k m fs) ((wordOf k m fs).take k) w) := by
  have HF := Lib.hid hf
  have HC := Lib.hid hc
  have HB := Lib.hid hb
  clear hf hc hb
  obtain ⟨E, hE⟩ : ∃ E, E = verdict k m fs := ⟨_, rfl⟩
  rw [← hE]
  have HE := Lib.hid hE
  clear hE
  obtain ⟨N, hN⟩ : ∃ N, N = k + m := ⟨_, rfl⟩
  have hkN : k ≤ N := by omega
  have HN := Lib.hid hN
  clear hN
  by_cases hz : E = 0
  · have HZ := Lib.hid hz
    clear hz
    go_enter Try.func19, Try.ntmps19
    go_wp2_with (first | (go_at_call 38; refine (whole_any k m fs _ _ HF.out HC.out HB.out h30).mono ?_; rintro e w2 (⟨_, v, rfl, hm, hb2⟩ | ⟨h, _⟩); (obtain ⟨va, vcap, hv, hvc, hvl⟩ := Mat.capOf hm; subst hv; rw [wordOf_len, ← HN.out] at hm hvc hvl ⊢; have HM := Lib.hid (And.intro hm hb2); clear hm hb2); rotate_left 1; exact absurd (HE.out.symm.trans HZ.out) h))
    go_ret2
    exact .inl ⟨HZ.out, _, rfl, mat_take HM.out.1 (by rw [wordOf_len, HN.out]) hkN (Nat.le_refl _) (by omega), HM.out.2⟩
  · have hne : (E != 0) = true := by rw [bne_iff_ne]; exact hz
    have HZ := Lib.hid hz
    clear hz
    go_enter Try.func19, Try.ntmps19
    go_wp2_with (first | (go_at_call 38; refine (whole_any k m fs _ _ HF.out HC.out HB.out h30).mono ?_; rintro e w2 (⟨h, _⟩ | ⟨_, h, hb2⟩); exact absurd (HE.out.trans h) HZ.out; rw [← HE.out] at h; subst h; have HM := Lib.hid hb2; clear hb2))
    go_ret2
    exact .inr ⟨HZ.out, rfl, HM.out⟩

/-- the verdict of Rebuild -/
noncomputable def rebE (k m : Nat) (fs : List Frag) (index : Int) : Int := if 0 ≤ index ∧ index < (k + m : Nat) then verdict k m fs else 1

theorem rebuild_code (k m index : Int) (fs : List Frag) (vf : Value) (w : World) (hc : codeB k m = false) : Calls Try.prog 23 #[.int .i64 k, .int .i64 m, vf, .int .i64 index] w (NilPost 1 w) := by
  have HC := Lib.hid hc
  clear hc
  go_enter Try.func23, Try.ntmps23
  go_wp2_with (first | (go_at_call 30; refine (code_any _ _ _).mono ?_; rw [HC.out]; rintro e w2 ⟨rfl, rfl⟩) | (go_at_call 38; refine (whole_code _ _ fs _ _ HC.out).mono ?_; rintro e w2 ⟨rfl, hb⟩; have HB := Lib.hid hb; clear hb))
  go_ret2
  exact ⟨rfl, HB.out⟩

set_option maxHeartbeats 1000000 in
theorem rebuild_any (k m : Nat) (fs : List Frag) (vf : Value) (index : Int) (w : World) (hf : Frags w vf fs) (hc : codeB k m = true) (hb : ∀ i, i < fs.length → (fragD fs i).2.length ≤ 2000) (h30 : fs.length ≤ 30) :
    Calls Try.prog 23 #[.int .i64 k, .int .i64 m, vf, .int .i64 index] w (RebPost (rebE k m fs index) ((wordOf k m fs).getD index.toNat []) w) := by
  obtain ⟨a, b, ha, hb', h1, h6, h4, h8⟩ := codeB_nat hc
  have ha : k = a := by omega
  have hb' : m = b := by omega
  subst ha hb'
  have HF := Lib.hid hf
  have HC := Lib.hid hc
  have HB := Lib.hid hb
  clear hf hc hb
  by_cases h0 : index < 0
  · have hd : decide (index < 0) = true := by simpa using h0
    go_enter Try.func23, Try.ntmps23
    go_wp2_with (first | (go_at_call 30; refine (code_any _ _ _).mono ?_; rw [HC.out]; rintro e w2 ⟨rfl, rfl⟩))
    go_ret2
    exact .inr (by unfold rebE; rw [if_neg (by omega)]; exact ⟨by decide, rfl, Below.refl _ _⟩)
  · have hd : decide (index < 0) = false := by simpa using h0
    by_cases hi : (k : Int) + m ≤ index
    · have hd1 : decide ((k : Int) + m ≤ index) = true := by simpa using hi
      go_enter Try.func23, Try.ntmps23
      go_wp2_with (first | (go_at_call 30; refine (code_any _ _ _).mono ?_; rw [HC.out]; rintro e w2 ⟨rfl, rfl⟩))
      go_ret2
      exact .inr (by unfold rebE; rw [if_neg (by omega)]; exact ⟨by decide, rfl, Below.refl _ _⟩)
    · obtain ⟨q, rfl⟩ : ∃ q : Nat, index = q := ⟨index.toNat, by omega⟩
      have hd1 : decide ((k : Int) + m ≤ q) = false := by simpa using hi
      have hre : rebE k m fs q = verdict k m fs := by unfold rebE; rw [if_pos (by omega)]
      rw [hre, Int.toNat_natCast]
      obtain ⟨E, hE⟩ : ∃ E, E = verdict k m fs := ⟨_, rfl⟩
      rw [← hE]
      have HE := Lib.hid hE
      obtain ⟨N, hN⟩ : ∃ N, N = k + m := ⟨_, rfl⟩
      have hqN : q < N := by omega
      have HN := Lib.hid hN
      clear hN hE hre h0 hi
      by_cases hz : E = 0
      · have HZ := Lib.hid hz
        clear hz
        go_enter Try.func23, Try.ntmps23
        go_wp2_with (first | (go_at_call 30; refine (code_any _ _ _).mono ?_; rw [HC.out]; rintro e w2 ⟨rfl, rfl⟩) | (go_at_call 38; refine (whole_any k m fs _ _ HF.out HC.out HB.out h30).mono ?_; rintro e w2 (⟨_, v, rfl, hm, hb2⟩ | ⟨h, _⟩); (obtain ⟨va, vcap, hv, hvc, hvl⟩ := Mat.capOf hm; subst hv; rw [wordOf_len, ← HN.out] at hm hvc hvl ⊢; obtain ⟨rb, ro, rx, he, hrb, hrc, hrx⟩ := hm.cell (i := q) (by rw [wordOf_len, ← HN.out]; exact hqN); subst he; have HM := Lib.hid (And.intro hrx hb2); clear hm hb2 hrx); rotate_left 1; exact absurd (HE.out.symm.trans HZ.out) h))
        go_ret2
        exact .inl ⟨HZ.out, _, rfl, HM.out.1, HM.out.2⟩
      · have hne : (E != 0) = true := by rw [bne_iff_ne]; exact hz
        have HZ := Lib.hid hz
        clear hz
        go_enter Try.func23, Try.ntmps23
        go_wp2_with (first | (go_at_call 30; refine (code_any _ _ _).mono ?_; rw [HC.out]; rintro e w2 ⟨rfl, rfl⟩) | (go_at_call 38; refine (whole_any k m fs _ _ HF.out HC.out HB.out h30).mono ?_; rintro e w2 (⟨h, _⟩ | ⟨_, h, hb2⟩); exact absurd (HE.out.trans h) HZ.out; rw [← HE.out] at h; subst h; have HM := Lib.hid hb2; clear hb2))
        go_ret2
        exact .inr ⟨HZ.out, rfl, HM.out⟩
end Go.Proofs.Ytojfeldafbabeaa
