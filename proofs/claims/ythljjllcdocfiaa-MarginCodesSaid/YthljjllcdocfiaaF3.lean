/- Walk: MarginCuts. -/
import Derived.Test.YthljjllcdocfiaaF2
set_option linter.unusedVariables false
set_option linter.unusedSimpArgs false
set_option linter.unnecessarySimpa false
namespace Go.Proofs.Ythljjllcdocfiaa
open Go Go.RowKit Go.MapKept

set_option maxHeartbeats 8000000 in
set_option maxRecDepth 20000 in
theorem cuts_law (k st : Int) (v : Value) (l : List Cp) (w : World) (h : Rd eC w v l) (h64 : ∀ c ∈ l, InC c) (hk : In64 k) (hs : In64 st) : Calls Try.prog 5 #[.int .i64 k, .int .i64 st, v] w fun e w' => e = .returned (.bool true) ∧ Below w.heap.size w w' := by
  obtain ⟨a, cap, rfl, hlen⟩ := h.open
  have H := Lib.hid h
  obtain ⟨n, hn⟩ : ∃ n, l.length = n := ⟨_, rfl⟩
  have HN := Lib.hid hn
  rw [hn] at hlen ⊢
  by_cases h14 : 14 < n
  · clear h hn
    go_enter Try.func5, Try.ntmps5
    go_wp2_with (first
      | (go_at_call 12; (with_reducible refine (awake_any _).mono ?_); rintro e w2 ⟨rfl, hb⟩; have HB := Lib.hid hb; clear hb))
    go_ret
    exact ⟨rfl, HB.out⟩
  · have KN := Lib.hid (near_any _ l w h h64 (by omega))
    rw [hn] at KN
    have HNL := Lib.hid (show (nearL l).length = n by unfold nearL; rw [List.length_map, hn])
    unfold In64 at hk hs
    have W2 := fun wg => Lib.hid (within_any k 4 wg (by omega) (by omega) hk.1 hk.2)
    have W3 := fun wg => Lib.hid (within_any st 4 wg (by omega) (by omega) hs.1 hs.2)
    have hs4 : 0 ≤ st % 4 ∧ st % 4 < 4 := by omega
    have hk4 : 0 ≤ k % 4 ∧ k % 4 < 4 := by omega
    obtain ⟨s', hs'⟩ : ∃ x, st % 4 = x := ⟨_, rfl⟩
    obtain ⟨k', hk'⟩ : ∃ x, k % 4 = x := ⟨_, rfl⟩
    rw [hs'] at W3 hs4
    rw [hk'] at W2 hk4
    obtain ⟨hs41, hs42⟩ := hs4
    obtain ⟨hk41, hk42⟩ := hk4
    obtain ⟨L1, e1, hc1⟩ : ∃ L e, cutsF (1 + k') (1 + s') (nearL l) = (L, e) := ⟨_, _, rfl⟩
    obtain ⟨L2, e2, hc2⟩ : ∃ L e, cutsF k st l = (L, e) := ⟨_, _, rfl⟩
    have HC1 := Lib.hid hc1
    have HC2 := Lib.hid hc2
    have HL1 := Lib.hid (show L1.length ≤ 1024 by have := cutsF_len (1 + k') (1 + s') (nearL l); rw [hc1] at this; exact this)
    have HL2 := Lib.hid (show L2.length ≤ 1024 by have := cutsF_len k st l; rw [hc2] at this; exact this)
    obtain ⟨q, hq⟩ : ∃ q, validB k st = q := ⟨_, rfl⟩
    have HQ := Lib.hid hq
    obtain ⟨dl, hdl⟩ : ∃ q, (drvL l).length = q := ⟨_, rfl⟩
    have HDL := Lib.hid hdl
    have hdl24 : dl ≤ 24 := by have := drvF_len l; omega
    have K25 := fun wg => Lib.hid (show Calls Try.prog 25 #[.int .i64 k, .int .i64 st] wg (fun e w' => e = .returned (.bool q) ∧ wg = w') from hq ▸ Valid_any k st wg)
    have hempty : (q = false ∨ 10 < dl) → L2 = [] := by
      intro h
      have h2 := hc2
      unfold cutsF at h2
      rw [hq, hdl] at h2
      rcases h with rfl | h
      · simp at h2; exact h2.1
      · cases q with
        | false => simp at h2; exact h2.1
        | true => simp [h] at h2; exact h2.1
    have HEM := Lib.hid hempty
    clear h hn h64 hk hs hs' hk' hc1 hc2 hq hdl hempty
    have K22 := fun wg (hw : Below w.heap.size w wg) => Lib.hid (show Calls Try.prog 22 #[.int .i64 k, .int .i64 st, .slice a n cap] wg _ from HN.out ▸ Cuts_as _ k st l wg (H.out.keep hw) (by rw [HN.out]; omega) HC2.out)
    have K23 := fun wg (hw : Below w.heap.size w wg) => Lib.hid (show Calls Try.prog 23 #[.int .i64 k, .int .i64 st, .slice a n cap] wg _ from HN.out ▸ RCuts_as _ k st l wg (H.out.keep hw) (by rw [HN.out]; omega) HC2.out)
    have K26 := fun wg (hw : Below w.heap.size w wg) => Lib.hid (show Calls Try.prog 26 #[.slice a n cap] wg _ from HN.out ▸ Drives_any _ l wg (H.out.keep hw) (by rw [HN.out]; omega))
    rcases (by cases q <;> simp : q = false ∨ q = true) with rfl | rfl
    · obtain rfl : L2 = [] := HEM.out (.inl rfl)
      go_enter Try.func5, Try.ntmps5
      go_wp2_with (first
        | (go_at_call 13; (with_reducible refine KN.out.mono ?_); rintro e w1 ⟨np, nc, rfl, ho⟩; rw [HNL.out] at ho ⊢; have HNR := Lib.hid (ho.rd (by rw [HNL.out]; omega)); have HB1 := Lib.hid ho.below; clear ho)
        | (go_at_call 14; (with_reducible refine (W2 _).out.mono ?_); rintro e w2 ⟨rfl, rfl⟩)
        | (go_at_call 14; (with_reducible refine (W3 _).out.mono ?_); rintro e w2 ⟨rfl, rfl⟩)
        | (go_at_call 22; (with_reducible refine (Cuts_as _ (1 + k') (1 + s') (nearL l) _ HNR.out (by rw [HNL.out]; omega) HC1.out).mono ?_); rintro e w3 ⟨ap, ac, ahs, rfl, ho⟩; have HA3 := Lib.hid (ho.rr (by have := HL1.out; omega)); have HN3 := Lib.hid (HNR.out.keep ho.own.below); have HB3 := Lib.hid (HB1.out.trans (ho.own.below.mono HB1.out.size)); clear ho)
        | (go_at_call 23; (with_reducible refine (RCuts_as _ (1 + k') (1 + s') (nearL l) _ HN3.out (by rw [HNL.out]; omega) HC1.out).mono ?_); rintro e w4 ⟨bp, bc, bhs, rfl, ho⟩; have HB4' := Lib.hid (ho.rr (by have := HL1.out; omega)); have HA4 := Lib.hid (HA3.out.below ho.own.below (Nat.le_refl _)); have HB4 := Lib.hid (HB3.out.trans (ho.own.below.mono HB3.out.size)); clear ho)
        | (go_at_call 22; (with_reducible refine (K22 _ HB4.out).out.mono ?_); rintro e w5 ⟨cp, cc, chs, rfl, ho⟩; have HC5 := Lib.hid (ho.rr (by have := HL2.out; omega)); have HA5 := Lib.hid (HA4.out.below ho.own.below (Nat.le_refl _)); have HB5' := Lib.hid (HB4'.out.below ho.own.below (Nat.le_refl _)); have HB5 := Lib.hid (HB4.out.trans (ho.own.below.mono HB4.out.size)); clear ho)
        | (go_at_call 24; (with_reducible refine (same_sets HA5.out HB5'.out).mono ?_); rintro e w6 ⟨rfl, hb⟩; have HC6 := Lib.hid (HC5.out.below hb (Nat.le_refl _)); have HB6 := Lib.hid (HB5.out.trans (hb.mono HB5.out.size)); clear hb)
        | (go_at_call 25; (with_reducible refine (K25 _).out.mono ?_); rintro e w7 ⟨rfl, rfl⟩)
        | (go_at_call 23; (with_reducible refine (K23 _ HB6.out).out.mono ?_); rintro e w8 ⟨dp, dc, dhs, rfl, ho⟩; have HB8 := Lib.hid (HB6.out.trans (ho.own.below.mono HB6.out.size)); clear ho)
        | (go_at_call 12; (with_reducible refine (awake_any _).mono ?_); rintro e w9 ⟨rfl, hb⟩; have HB9 := Lib.hid (HB8.out.trans (hb.mono HB8.out.size)); clear hb))
      go_ret
      exact ⟨rfl, HB9.out⟩
    · by_cases h10 : 10 < dl
      · obtain rfl : L2 = [] := HEM.out (.inr h10)
        go_enter Try.func5, Try.ntmps5
        go_wp2_with (first
          | (go_at_call 13; (with_reducible refine KN.out.mono ?_); rintro e w1 ⟨np, nc, rfl, ho⟩; rw [HNL.out] at ho ⊢; have HNR := Lib.hid (ho.rd (by rw [HNL.out]; omega)); have HB1 := Lib.hid ho.below; clear ho)
          | (go_at_call 14; (with_reducible refine (W2 _).out.mono ?_); rintro e w2 ⟨rfl, rfl⟩)
          | (go_at_call 14; (with_reducible refine (W3 _).out.mono ?_); rintro e w2 ⟨rfl, rfl⟩)
          | (go_at_call 22; (with_reducible refine (Cuts_as _ (1 + k') (1 + s') (nearL l) _ HNR.out (by rw [HNL.out]; omega) HC1.out).mono ?_); rintro e w3 ⟨ap, ac, ahs, rfl, ho⟩; have HA3 := Lib.hid (ho.rr (by have := HL1.out; omega)); have HN3 := Lib.hid (HNR.out.keep ho.own.below); have HB3 := Lib.hid (HB1.out.trans (ho.own.below.mono HB1.out.size)); clear ho)
          | (go_at_call 23; (with_reducible refine (RCuts_as _ (1 + k') (1 + s') (nearL l) _ HN3.out (by rw [HNL.out]; omega) HC1.out).mono ?_); rintro e w4 ⟨bp, bc, bhs, rfl, ho⟩; have HB4' := Lib.hid (ho.rr (by have := HL1.out; omega)); have HA4 := Lib.hid (HA3.out.below ho.own.below (Nat.le_refl _)); have HB4 := Lib.hid (HB3.out.trans (ho.own.below.mono HB3.out.size)); clear ho)
          | (go_at_call 22; (with_reducible refine (K22 _ HB4.out).out.mono ?_); rintro e w5 ⟨cp, cc, chs, rfl, ho⟩; have HC5 := Lib.hid (ho.rr (by have := HL2.out; omega)); have HA5 := Lib.hid (HA4.out.below ho.own.below (Nat.le_refl _)); have HB5' := Lib.hid (HB4'.out.below ho.own.below (Nat.le_refl _)); have HB5 := Lib.hid (HB4.out.trans (ho.own.below.mono HB4.out.size)); clear ho)
          | (go_at_call 24; (with_reducible refine (same_sets HA5.out HB5'.out).mono ?_); rintro e w6 ⟨rfl, hb⟩; have HC6 := Lib.hid (HC5.out.below hb (Nat.le_refl _)); have HB6 := Lib.hid (HB5.out.trans (hb.mono HB5.out.size)); clear hb)
          | (go_at_call 25; (with_reducible refine (K25 _).out.mono ?_); rintro e w7 ⟨rfl, rfl⟩)
          | (go_at_call 26; (with_reducible refine (K26 _ HB6.out).out.mono ?_); rintro e w7 ⟨vp, vc, rfl, ho⟩; rw [HDL.out] at ho ⊢; have HB7 := Lib.hid (HB6.out.trans (ho.below.mono HB6.out.size)); clear ho)
          | (go_at_call 23; (with_reducible refine (K23 _ HB7.out).out.mono ?_); rintro e w8 ⟨dp, dc, dhs, rfl, ho⟩; have HB8 := Lib.hid (HB7.out.trans (ho.own.below.mono HB7.out.size)); clear ho)
          | (go_at_call 12; (with_reducible refine (awake_any _).mono ?_); rintro e w9 ⟨rfl, hb⟩; have HB9 := Lib.hid (HB8.out.trans (hb.mono HB8.out.size)); clear hb))
        go_ret
        exact ⟨rfl, HB9.out⟩
      · go_enter Try.func5, Try.ntmps5
        go_wp2_with (first
          | (go_at_call 13; (with_reducible refine KN.out.mono ?_); rintro e w1 ⟨np, nc, rfl, ho⟩; rw [HNL.out] at ho ⊢; have HNR := Lib.hid (ho.rd (by rw [HNL.out]; omega)); have HB1 := Lib.hid ho.below; clear ho)
          | (go_at_call 14; (with_reducible refine (W2 _).out.mono ?_); rintro e w2 ⟨rfl, rfl⟩)
          | (go_at_call 14; (with_reducible refine (W3 _).out.mono ?_); rintro e w2 ⟨rfl, rfl⟩)
          | (go_at_call 22; (with_reducible refine (Cuts_as _ (1 + k') (1 + s') (nearL l) _ HNR.out (by rw [HNL.out]; omega) HC1.out).mono ?_); rintro e w3 ⟨ap, ac, ahs, rfl, ho⟩; have HA3 := Lib.hid (ho.rr (by have := HL1.out; omega)); have HN3 := Lib.hid (HNR.out.keep ho.own.below); have HB3 := Lib.hid (HB1.out.trans (ho.own.below.mono HB1.out.size)); clear ho)
          | (go_at_call 23; (with_reducible refine (RCuts_as _ (1 + k') (1 + s') (nearL l) _ HN3.out (by rw [HNL.out]; omega) HC1.out).mono ?_); rintro e w4 ⟨bp, bc, bhs, rfl, ho⟩; have HB4' := Lib.hid (ho.rr (by have := HL1.out; omega)); have HA4 := Lib.hid (HA3.out.below ho.own.below (Nat.le_refl _)); have HB4 := Lib.hid (HB3.out.trans (ho.own.below.mono HB3.out.size)); clear ho)
          | (go_at_call 22; (with_reducible refine (K22 _ HB4.out).out.mono ?_); rintro e w5 ⟨cp, cc, chs, rfl, ho⟩; have HC5 := Lib.hid (ho.rr (by have := HL2.out; omega)); have HA5 := Lib.hid (HA4.out.below ho.own.below (Nat.le_refl _)); have HB5' := Lib.hid (HB4'.out.below ho.own.below (Nat.le_refl _)); have HB5 := Lib.hid (HB4.out.trans (ho.own.below.mono HB4.out.size)); clear ho)
          | (go_at_call 24; (with_reducible refine (same_sets HA5.out HB5'.out).mono ?_); rintro e w6 ⟨rfl, hb⟩; have HC6 := Lib.hid (HC5.out.below hb (Nat.le_refl _)); have HB6 := Lib.hid (HB5.out.trans (hb.mono HB5.out.size)); clear hb)
          | (go_at_call 25; (with_reducible refine (K25 _).out.mono ?_); rintro e w7 ⟨rfl, rfl⟩)
          | (go_at_call 26; (with_reducible refine (K26 _ HB6.out).out.mono ?_); rintro e w7 ⟨vp, vc, rfl, ho⟩; rw [HDL.out] at ho ⊢; have HC7 := Lib.hid (HC6.out.below ho.below (Nat.le_refl _)); have HB7 := Lib.hid (HB6.out.trans (ho.below.mono HB6.out.size)); clear ho)
          | (go_at_call 23; (with_reducible refine (K23 _ HB7.out).out.mono ?_); rintro e w8 ⟨dp, dc, dhs, rfl, ho⟩; have HD8 := Lib.hid (ho.rr (by have := HL2.out; omega)); have HC8 := Lib.hid (HC7.out.below ho.own.below (Nat.le_refl _)); have HB8 := Lib.hid (HB7.out.trans (ho.own.below.mono HB7.out.size)); clear ho)
          | (go_at_call 12; (with_reducible refine (awake_any _).mono ?_); rintro e w9 ⟨rfl, hb⟩; have HC9 := Lib.hid (HC8.out.below hb (Nat.le_refl _)); have HD9 := Lib.hid (HD8.out.below hb (Nat.le_refl _)); have HB9 := Lib.hid (HB8.out.trans (hb.mono HB8.out.size)); clear hb)
          | (go_at_call 24; (with_reducible refine (same_sets HC9.out HD9.out).mono ?_); rintro e w10 ⟨rfl, hb⟩; have HB10 := Lib.hid (HB9.out.trans (hb.mono HB9.out.size)); clear hb))
        go_ret
        exact ⟨rfl, HB10.out⟩
end Go.Proofs.Ythljjllcdocfiaa
