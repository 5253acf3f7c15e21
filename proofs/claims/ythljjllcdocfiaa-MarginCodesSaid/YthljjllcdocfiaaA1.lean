/- Walks: Within, counts, valid, fragments, members. -/
import Derived.Test.YthljjllcdocfiaaPl
set_option linter.unusedVariables false
set_option linter.unusedSimpArgs false
set_option linter.unnecessarySimpa false
namespace Go.Proofs.Ythljjllcdocfiaa
open Go Go.RowKit Go.MapKept

set_option maxHeartbeats 1000000 in
theorem counts_as (f d s : Int) {q : Bool} (hq : cnt (f, d, s) = q) (w : World) : Calls Try.prog 35 #[.agg #[.int .i64 f, .int .i64 d, .int .i64 s]] w fun e w' => e = .returned (.bool q) ∧ Below w.heap.size w w' := by
  subst hq
  show Calls Try.prog 35 #[.agg #[.int .i64 f, .int .i64 d, .int .i64 s]] w fun e w' => e = .returned (.bool (decide (0 ≤ f) && decide (f < 8))) ∧ _
  rcases (by omega : f < 0 ∨ (0 ≤ f ∧ f < 8) ∨ (0 ≤ f ∧ ¬ f < 8)) with h0 | ⟨h0, h1⟩ | ⟨h0, h1⟩
  all_goals
    go_enter Try.func35, Try.ntmps35
    go_wp2_with fail
    go_ret
    exact ⟨ret_bool (by simp; omega), below_alloc _ _⟩
set_option maxHeartbeats 1000000 in
theorem Counts_as (f d s : Int) {q : Bool} (hq : cnt (f, d, s) = q) (w : World) : Calls Try.prog 43 #[.agg #[.int .i64 f, .int .i64 d, .int .i64 s]] w fun e w' => e = .returned (.bool q) ∧ Below w.heap.size w w' := by
  subst hq
  show Calls Try.prog 43 #[.agg #[.int .i64 f, .int .i64 d, .int .i64 s]] w fun e w' => e = .returned (.bool (decide (0 ≤ f) && decide (f < 8))) ∧ _
  rcases (by omega : f < 0 ∨ (0 ≤ f ∧ f < 8) ∨ (0 ≤ f ∧ ¬ f < 8)) with h0 | ⟨h0, h1⟩ | ⟨h0, h1⟩
  all_goals
    go_enter Try.func43, Try.ntmps43
    go_wp2_with fail
    go_ret
    exact ⟨ret_bool (by simp; omega), below_alloc _ _⟩
set_option maxHeartbeats 1000000 in
theorem valid_any (k st : Int) (w : World) : Calls Try.prog 30 #[.int .i64 k, .int .i64 st] w fun e w' => e = .returned (.bool (validB k st)) ∧ w = w' := by
  unfold validB
  by_cases h0 : 1 ≤ k <;> by_cases h1 : k ≤ 6 <;> by_cases h2 : 1 ≤ st <;> by_cases h3 : st ≤ 4
  all_goals
    go_enter Try.func30, Try.ntmps30
    go_wp2_with fail
    go_ret
    exact ⟨by simp [h0, h1, h2, h3], rfl⟩
set_option maxHeartbeats 1000000 in
theorem Valid_any (k st : Int) (w : World) : Calls Try.prog 25 #[.int .i64 k, .int .i64 st] w fun e w' => e = .returned (.bool (validB k st)) ∧ w = w' := by
  unfold validB
  by_cases h0 : 1 ≤ k <;> by_cases h1 : k ≤ 6 <;> by_cases h2 : 1 ≤ st <;> by_cases h3 : st ≤ 4
  all_goals
    go_enter Try.func25, Try.ntmps25
    go_wp2_with fail
    go_ret
    exact ⟨by simp [h0, h1, h2, h3], rfl⟩
set_option maxHeartbeats 2000000 in
theorem frag_any (v : Value) (l : List Cp) (s : Nat) (w : World) (h : Rd eC w v l) (hs : s < 4) : Calls Try.prog 32 #[v, .int .i64 s] w fun e w' => e = .returned (.int .i64 (frS s l 0 : Nat)) ∧ Below w.heap.size w w' := by
  obtain ⟨a, cap, rfl, hlen⟩ := h.open
  have H := Lib.hid h
  obtain ⟨n, hn⟩ : ∃ n, l.length = n := ⟨_, rfl⟩
  have HN := Lib.hid hn
  rw [hn] at hlen ⊢
  rw [hn] at h
  clear h hn
  go_enter Try.func32, Try.ntmps32
  go_wp2_with fail
  go_loopw [5, 10] (fun x y wr => ∃ (k g : Nat), k ≤ n ∧ y = .int .i64 k ∧ g < 256 ∧ x = .int .i64 g ∧ Hid (frS s (l.drop k) g = frS s l 0) ∧ Hid (Below w.heap.size w wr)) (fun _ y _ => n - (intOf y).toNat)
  case atStart => exact ⟨0, 0, by omega, rfl, by omega, rfl, Lib.hid rfl, Lib.hid (Below.refl _ _)⟩
  case round =>
    rename World => wr
    obtain ⟨k, g, hk, rfl, hg, rfl, HF, HB⟩ := hrel
    by_cases hkn : k < n
    · obtain ⟨c, hc⟩ : ∃ c, l[k]? = some c := ⟨l[k]'(by rw [HN.out]; exact hkn), by simp⟩
      have HR := H.out.below HB.out (Nat.le_refl _)
      rw [HN.out] at HR
      obtain ⟨b, off, rfl, hb, c0, c1, c2⟩ := HR.cp hc
      obtain ⟨f, d, t⟩ := c
      simp only at c0 c1 c2
      have HC := Lib.hid hc
      have M0 := Lib.hid ((Mm.start (S := []) wr (by simp)).push wr.heap.size #[.int .i64 f, .int .i64 d, .int .i64 t] 44 rfl)
      have HB1 := Lib.hid (HB.out.alloc HB.out.size (.cells #[.int .i64 f, .int .i64 d, .int .i64 t] 44))
      clear hc HR
      obtain ⟨q, hq⟩ : ∃ q, cnt (f, d, t) = q := ⟨_, rfl⟩
      obtain ⟨y, hy⟩ : ∃ y, bitI t s = y := ⟨_, rfl⟩
      have hb2 := bit_test t s
      rw [hy] at hb2
      have HQ := Lib.hid hq
      have HY := Lib.hid hy
      clear hy hq
      cases q with
      | false =>
        go_wp2_with (first
          | (go_at_call 35; (with_reducible refine (counts_as _ _ _ HQ.out _).mono ?_); rintro e w1 ⟨rfl, hb1⟩; have M1 := Lib.hid (M0.out.call hb1); have HB2 := Lib.hid (HB1.out.trans (hb1.mono HB1.out.size)); (obtain ⟨m00, m01, m02, m00f, m01f, m02f, m0l⟩ := (M1).out.lay3 0 rfl); clear hb1))
        go_roundw
        case rel =>
          refine ⟨k + 1, g, by omega, by go_num, hg, rfl, Lib.hid ?_, HB2⟩
          rw [← HF.out, frS_step HC.out, HQ.out]
          rfl
        case measure => simp [intOf]; omega
      | true =>
        obtain ⟨f, rfl⟩ : ∃ F : Nat, f = F := ⟨f.toNat, by have := HQ.out; simp [cnt] at this; omega⟩
        have hf8 : f < 8 := by have := HQ.out; simp [cnt] at this; omega
        cases y with
        | false =>
          go_wp2_with (first
            | (go_at_call 35; (with_reducible refine (counts_as _ _ _ HQ.out _).mono ?_); rintro e w1 ⟨rfl, hb1⟩; have M1 := Lib.hid (M0.out.call hb1); have HB2 := Lib.hid (HB1.out.trans (hb1.mono HB1.out.size)); (obtain ⟨m00, m01, m02, m00f, m01f, m02f, m0l⟩ := (M1).out.lay3 0 rfl); clear hb1))
          go_roundw
          case rel =>
            refine ⟨k + 1, g, by omega, by go_num, hg, rfl, Lib.hid ?_, HB2⟩
            rw [← HF.out, frS_step HC.out, HQ.out]
            simp only [HY.out, Bool.and_false, Bool.false_eq_true, if_false]
          case measure => simp [intOf]; omega
        | true =>
          go_wp2_with (first
            | (go_at_call 35; (with_reducible refine (counts_as _ _ _ HQ.out _).mono ?_); rintro e w1 ⟨rfl, hb1⟩; have M1 := Lib.hid (M0.out.call hb1); have HB2 := Lib.hid (HB1.out.trans (hb1.mono HB1.out.size)); (obtain ⟨m00, m01, m02, m00f, m01f, m02f, m0l⟩ := (M1).out.lay3 0 rfl); clear hb1))
          go_roundw
          case rel =>
            refine ⟨k + 1, g ||| 2 ^ f, by omega, by go_num, or_lt (m := 8) hg hf8, by rw [or_pow g f (by omega) (by omega)], Lib.hid ?_, HB2⟩
            rw [← HF.out, frS_step HC.out, HQ.out]
            simp only [HY.out, Bool.and_self, if_true, Int.toNat_natCast]
          case measure => simp [intOf]; omega
    · go_wp2_with fail
      go_ret
      refine ⟨ret_int ?_, HB.out⟩
      rw [← HF.out, List.drop_eq_nil_of_le (by rw [HN.out]; omega)]
      rfl
end Go.Proofs.Ythljjllcdocfiaa
