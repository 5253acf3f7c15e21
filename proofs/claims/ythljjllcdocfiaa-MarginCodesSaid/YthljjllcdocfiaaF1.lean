/- Walk: MarginCounts. -/
import Derived.Test.YthljjllcdocfiaaE4
set_option linter.unusedVariables false
set_option linter.unusedSimpArgs false
set_option linter.unnecessarySimpa false
namespace Go.Proofs.Ythljjllcdocfiaa
open Go Go.RowKit Go.MapKept

set_option maxHeartbeats 1000000 in
theorem short_as (v u : Value) (l : List Cp) (d : List Int) (w : World) (h : Rd eC w v l) (h2 : Rd eI w u d) {q : Bool} (hq : (decide (l.length ≤ 24) && decide (d.length ≤ 24)) = q) : Calls Try.prog 11 #[v, u] w fun e w' => e = .returned (.bool q) ∧ w = w' := by
  obtain ⟨a, cap, rfl, hlen⟩ := h.open
  obtain ⟨a2, cap2, rfl, hlen2⟩ := h2.open
  clear h h2
  subst hq
  generalize l.length = n at *
  generalize d.length = m at *
  by_cases h1 : n ≤ 24 <;> by_cases h3 : m ≤ 24
  all_goals
    have q1 : decide ((n : Int) ≤ 24) = decide (n ≤ 24) := by simp; omega
    have q2 : decide ((m : Int) ≤ 24) = decide (m ≤ 24) := by simp; omega
    go_enter Try.func11, Try.ntmps11
    go_wp2_with fail
    go_ret
    exact ⟨ret_bool (by simp [h1, h3]; try omega), rfl⟩

set_option maxHeartbeats 8000000 in
set_option maxRecDepth 20000 in
theorem counts_law (k st s : Int) (v : Value) (l : List Cp) (w : World) (h : Rd eC w v l) (h64 : ∀ c ∈ l, InC c) (hk : In64 k) (hs : In64 s) : Calls Try.prog 3 #[.int .i64 k, .int .i64 st, v, .int .i64 s] w fun e w' => e = .returned (.bool true) ∧ Below w.heap.size w w' := by
  obtain ⟨a, cap, rfl, hlen⟩ := h.open
  have H := Lib.hid h
  obtain ⟨n, hn⟩ : ∃ n, l.length = n := ⟨_, rfl⟩
  have HN := Lib.hid hn
  obtain ⟨q, hq⟩ : ∃ q, (decide (l.length ≤ 24) && decide (([] : List Int).length ≤ 24)) = q := ⟨_, rfl⟩
  have KS := Lib.hid (short_as _ _ l [] w h (Rd.nil w none 0 (by omega)) hq)
  rw [hn] at KS hlen hq ⊢
  cases q with
  | false =>
    clear h hn hq
    go_enter Try.func3, Try.ntmps3
    go_wp2_with (first
      | (go_at_call 11; (with_reducible refine KS.out.mono ?_); rintro e w1 ⟨rfl, rfl⟩)
      | (go_at_call 12; (with_reducible refine (awake_any _).mono ?_); rintro e w2 ⟨rfl, hb⟩; have HB := Lib.hid hb; clear hb))
    go_ret
    exact ⟨rfl, HB.out⟩
  | true =>
    have hn24 : n ≤ 24 := by simpa using hq
    have KN := Lib.hid (near_any _ l w h h64 (by omega))
    rw [hn] at KN
    unfold In64 at hk hs
    have W1 := fun wg => Lib.hid (within_any s 4 wg (by omega) (by omega) hs.1 hs.2)
    have W2 := fun wg => Lib.hid (within_any k 4 wg (by omega) (by omega) hk.1 hk.2)
    have hs4 : 0 ≤ s % 4 ∧ s % 4 < 4 := by omega
    have hk4 : 0 ≤ k % 4 ∧ k % 4 < 4 := by omega
    obtain ⟨s', hs'⟩ : ∃ x, s % 4 = x := ⟨_, rfl⟩
    obtain ⟨k', hk'⟩ : ∃ x, k % 4 = x := ⟨_, rfl⟩
    rw [hs'] at W1 hs4
    rw [hk'] at W2 hk4
    obtain ⟨hs41, hs42⟩ := hs4
    obtain ⟨hk41, hk42⟩ := hk4
    obtain ⟨m1, e1, he1⟩ : ∃ m e, margF k st l = (m, e) := ⟨_, _, rfl⟩
    obtain ⟨m2, e2, he2⟩ : ∃ m e, margF (1 + k') (1 + s') (nearL l) = (m, e) := ⟨_, _, rfl⟩
    have HE1 := Lib.hid he1
    have HE2 := Lib.hid he2
    have HNL := Lib.hid (show (nearL l).length = n by unfold nearL; rw [List.length_map, hn])
    have hil := intact_len l s
    have hil2 := intact_len (nearL l) s'
    have KI1 := fun wg (hw : Below w.heap.size w wg) => Lib.hid (Intact_any _ l s wg (h.keep hw))
    have KI2 := fun wg (hw : Below w.heap.size w wg) => Lib.hid (RIntact_any _ l s wg (h.keep hw))
    rw [hn] at KI1 KI2
    have HI1 := Lib.hid hil
    have HI2 := Lib.hid hil2
    have HSL := Lib.hid (show ∃ r, (intactL l s).length = r from ⟨_, rfl⟩)
    clear h hn hq h64 hk hs hs' hk' he1 he2 hil hil2
    have K15 := fun wg (hw : Below w.heap.size w wg) => Lib.hid (show Calls Try.prog 15 #[.int .i64 k, .int .i64 st, .slice a n cap] wg _ from HN.out ▸ Margin_as _ k st l wg (H.out.keep hw) HE1.out)
    have K16 := fun wg (hw : Below w.heap.size w wg) => Lib.hid (show Calls Try.prog 16 #[.int .i64 k, .int .i64 st, .slice a n cap] wg _ from HN.out ▸ RMargin_as _ k st l wg (H.out.keep hw) HE1.out)
    go_enter Try.func3, Try.ntmps3
    go_wp2_with (first
      | (go_at_call 11; (with_reducible refine KS.out.mono ?_); rintro e w1 ⟨rfl, rfl⟩)
      | (go_at_call 13; (with_reducible refine KN.out.mono ?_); rintro e w1 ⟨np, nc, rfl, ho⟩; rw [HNL.out] at ho ⊢; have HNR := Lib.hid (ho.rd (by rw [HNL.out]; omega)); have HB1 := Lib.hid ho.below; clear ho)
      | (go_at_call 14; (with_reducible refine (W1 _).out.mono ?_); rintro e w2 ⟨rfl, rfl⟩)
      | (go_at_call 14; (with_reducible refine (W2 _).out.mono ?_); rintro e w2 ⟨rfl, rfl⟩)
      | (go_at_call 15; (with_reducible refine (K15 _ HB1.out).out.mono ?_); rintro e w3 ⟨rfl, hb⟩; have HB3 := Lib.hid (HB1.out.trans (hb.mono HB1.out.size)); have HN3 := Lib.hid (HNR.out.keep hb); clear hb)
      | (go_at_call 16; (with_reducible refine (K16 _ HB3.out).out.mono ?_); rintro e w4 ⟨rfl, hb⟩; have HB4 := Lib.hid (HB3.out.trans (hb.mono HB3.out.size)); have HN4 := Lib.hid (HN3.out.keep hb); clear hb)
      | (go_at_call 15; (with_reducible refine (Margin_as _ (1 + k') (1 + s') (nearL l) _ HN4.out HE2.out).mono ?_); rintro e w5 ⟨rfl, hb⟩; have HB5 := Lib.hid (HB4.out.trans (hb.mono HB4.out.size)); have HN5 := Lib.hid (HN4.out.keep hb); clear hb)
      | (go_at_call 16; (with_reducible refine (RMargin_as _ (1 + k') (1 + s') (nearL l) _ HN5.out HE2.out).mono ?_); rintro e w6 ⟨rfl, hb⟩; have HB6 := Lib.hid (HB5.out.trans (hb.mono HB5.out.size)); have HN6 := Lib.hid (HN5.out.keep hb); clear hb)
      | (go_at_call 12; (with_reducible refine (awake_any _).mono ?_); rintro e w7 ⟨rfl, hb⟩; have HB7 := Lib.hid (HB6.out.trans (hb.mono HB6.out.size)); have HN7 := Lib.hid (HN6.out.keep hb); clear hb)
      | (go_at_call 18; (with_reducible refine (KI1 _ HB7.out).out.mono ?_); rintro e w8 ⟨ip, ic, rfl, ho⟩; have HI8 := Lib.hid (ho.rd (by have := HI1.out; omega)); have HB8 := Lib.hid (HB7.out.trans (ho.below.mono HB7.out.size)); have HN8 := Lib.hid (HN7.out.keep ho.below); clear ho)
      | (go_at_call 19; (with_reducible refine (KI2 _ HB8.out).out.mono ?_); rintro e w9 ⟨jp, jc, rfl, ho⟩; have HJ9 := Lib.hid (ho.rd (by have := HI1.out; omega)); have HI9 := Lib.hid (HI8.out.keep ho.below); have HB9 := Lib.hid (HB8.out.trans (ho.below.mono HB8.out.size)); have HN9 := Lib.hid (HN8.out.keep ho.below); clear ho)
      | (go_at_call 17; (with_reducible refine (same_ints _ _ (intactL l s) _ HI9.out HJ9.out).mono ?_); rintro e w10 ⟨rfl, hb⟩; have HB10 := Lib.hid (HB9.out.trans (hb.mono HB9.out.size)); have HN10 := Lib.hid (HN9.out.keep hb); clear hb)
      | (go_at_call 18; (with_reducible refine (Intact_any _ (nearL l) s' _ HN10.out).mono ?_); rintro e w11 ⟨ip2, ic2, rfl, ho⟩; have HI11 := Lib.hid (ho.rd (by have := HI2.out; omega)); have HB11 := Lib.hid (HB10.out.trans (ho.below.mono HB10.out.size)); have HN11 := Lib.hid (HN10.out.keep ho.below); clear ho)
      | (go_at_call 19; (with_reducible refine (RIntact_any _ (nearL l) s' _ HN11.out).mono ?_); rintro e w12 ⟨jp2, jc2, rfl, ho⟩; have HJ12 := Lib.hid (ho.rd (by have := HI2.out; omega)); have HI12 := Lib.hid (HI11.out.keep ho.below); have HB12 := Lib.hid (HB11.out.trans (ho.below.mono HB11.out.size)); clear ho)
      | (go_at_call 17; (with_reducible refine (same_ints _ _ (intactL (nearL l) s') _ HI12.out HJ12.out).mono ?_); rintro e w13 ⟨rfl, hb⟩; have HB13 := Lib.hid (HB12.out.trans (hb.mono HB12.out.size)); clear hb))
    go_ret
    exact ⟨rfl, HB13.out⟩
end Go.Proofs.Ythljjllcdocfiaa
