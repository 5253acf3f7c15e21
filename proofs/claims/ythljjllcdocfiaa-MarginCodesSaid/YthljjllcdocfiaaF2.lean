/- Walk: MarginSurvives. -/
import Derived.Test.YthljjllcdocfiaaF1
set_option linter.unusedVariables false
set_option linter.unusedSimpArgs false
set_option linter.unnecessarySimpa false
namespace Go.Proofs.Ythljjllcdocfiaa
open Go Go.RowKit Go.MapKept

def modI (l : List Int) : List Int := l.map (· % 8)
theorem mod_take {l : List Int} {k : Nat} (h : k < l.length) : modI (l.take (k + 1)) = modI (l.take k) ++ [l.getD k 0 % 8] := by
  unfold modI
  rw [List.take_add_one, getD_get h]
  simp
theorem mod_len (l : List Int) {k : Nat} (h : k ≤ l.length) : (modI (l.take k)).length = k := by
  unfold modI
  rw [List.length_map, List.length_take]
  omega

set_option maxHeartbeats 8000000 in
set_option maxRecDepth 20000 in
theorem survives_law (k st : Int) (v u : Value) (l : List Cp) (d : List Int) (w : World) (h : Rd eC w v l) (hd : Rd eI w u d) (h64 : ∀ c ∈ l, InC c) (hd64 : ∀ x ∈ d, In64 x) (hk : In64 k) (hs : In64 st) : Calls Try.prog 4 #[.int .i64 k, .int .i64 st, v, u] w fun e w' => e = .returned (.bool true) ∧ Below w.heap.size w w' := by
  obtain ⟨a, cap, rfl, hlen⟩ := h.open
  obtain ⟨a2, cap2, rfl, hlen2⟩ := hd.open
  have H := Lib.hid h
  have HD := Lib.hid hd
  obtain ⟨n, hn⟩ : ∃ n, l.length = n := ⟨_, rfl⟩
  have HN := Lib.hid hn
  obtain ⟨m, hm⟩ : ∃ n, d.length = n := ⟨_, rfl⟩
  have HM := Lib.hid hm
  obtain ⟨q, hq⟩ : ∃ q, (decide (l.length ≤ 24) && decide (d.length ≤ 24)) = q := ⟨_, rfl⟩
  have KS := Lib.hid (short_as _ _ l d w h hd hq)
  rw [hn] at KS hlen hq ⊢
  rw [hm] at KS hlen2 hq ⊢
  cases q with
  | false =>
    clear h hn hq hd hm
    go_enter Try.func4, Try.ntmps4
    go_wp2_with (first
      | (go_at_call 11; (with_reducible refine KS.out.mono ?_); rintro e w1 ⟨rfl, rfl⟩)
      | (go_at_call 12; (with_reducible refine (awake_any _).mono ?_); rintro e w2 ⟨rfl, hb⟩; have HB := Lib.hid hb; clear hb))
    go_ret
    exact ⟨rfl, HB.out⟩
  | true =>
    have hq2 : n ≤ 24 ∧ m ≤ 24 := by simpa using hq
    obtain ⟨hn24, hm24⟩ := hq2
    have KN := Lib.hid (near_any _ l w h h64 (by omega))
    rw [hn] at KN
    have HNL := Lib.hid (show (nearL l).length = n by unfold nearL; rw [List.length_map, hn])
    have HD64 := Lib.hid hd64
    unfold In64 at hk hs
    have W2 := fun wg => Lib.hid (within_any k 4 wg (by omega) (by omega) hk.1 hk.2)
    have W3 := fun wg => Lib.hid (within_any st 4 wg (by omega) (by omega) hs.1 hs.2)
    have hs4 : 0 ≤ st % 4 ∧ st % 4 < 4 := by omega
    have hk4 : 0 ≤ k % 4 ∧ k % 4 < 4 := by omega
    obtain ⟨s', hs'⟩ : ∃ x, st % 4 = x := ⟨_, rfl⟩
    obtain ⟨k', hk'⟩ : ∃ x, k % 4 = x := ⟨_, rfl⟩
    rw [hs'] at W3 hs4
    rw [hk'] at W2 hk4
    obtain ⟨hs41, hs42⟩ := hs4
    obtain ⟨hk41, hk42⟩ := hk4
    obtain ⟨z1, hz1⟩ : ∃ z, survF k st l d = z := ⟨_, rfl⟩
    obtain ⟨z2, hz2⟩ : ∃ z, survF (1 + k') (1 + s') (nearL l) (modI d) = z := ⟨_, rfl⟩
    have HZ1 := Lib.hid hz1
    have HZ2 := Lib.hid hz2
    clear h hn hq h64 hk hs hs' hk' hd hm hd64 hz1 hz2
    have K20 := fun wg (hw : Below w.heap.size w wg) => Lib.hid (show Calls Try.prog 20 #[.int .i64 k, .int .i64 st, .slice a n cap, .slice a2 m cap2] wg _ from HN.out ▸ HM.out ▸ Survives_as _ _ k st l d wg (H.out.keep hw) (HD.out.keep hw) (by rw [HN.out]; omega) HZ1.out)
    have K21 := fun wg (hw : Below w.heap.size w wg) => Lib.hid (show Calls Try.prog 21 #[.int .i64 k, .int .i64 st, .slice a n cap, .slice a2 m cap2] wg _ from HN.out ▸ HM.out ▸ RSurvives_as _ _ k st l d wg (H.out.keep hw) (HD.out.keep hw) (by rw [HN.out]; omega) HZ1.out)
    go_enter Try.func4, Try.ntmps4
    go_wp2_with (first
      | (go_at_call 11; (with_reducible refine KS.out.mono ?_); rintro e w1 ⟨rfl, rfl⟩)
      | (go_at_call 13; (with_reducible refine KN.out.mono ?_); rintro e w1 ⟨np, nc, rfl, ho⟩; rw [HNL.out] at ho ⊢; have HNR := Lib.hid (ho.rd (by rw [HNL.out]; omega)); have HB1 := Lib.hid ho.below; clear ho))
    go_loopw [10, 11] (fun x y wr => ∃ (i : Nat) (p : Option Addr) (c : Nat), i ≤ m ∧ y = .int .i64 i ∧ x = .slice p i c ∧ Hid (Ow eI 3 w1 wr (.slice p i c) (modI (d.take i)))) (fun _ y _ => m - (intOf y).toNat)
    case atStart => exact ⟨0, none, 0, by omega, rfl, rfl, Lib.hid (Ow.start 3 w1)⟩
    case round =>
      rename World => wr
      obtain ⟨i, p, c, hi, rfl, rfl, HO⟩ := hrel
      by_cases him : i < m
      · have hil : i < d.length := by rw [HM.out]; exact him
        have HR := (HD.out.keep HB1.out).below HO.out.below (Nat.le_refl _)
        rw [HM.out] at HR
        obtain ⟨b, off, rfl, hb, c0⟩ := HR.int hil
        have hx64 := HD64.out (d.getD i 0) (by rw [show d.getD i 0 = d[i] by simp [hil]]; exact List.getElem_mem _)
        unfold In64 at hx64
        have HS := Lib.hid (mod_take hil)
        have HL := Lib.hid (mod_len d (show i ≤ d.length by omega))
        obtain ⟨x, hx⟩ : ∃ x, d.getD i 0 = x := ⟨_, rfl⟩
        rw [hx] at c0 hx64 HS
        have W8 := fun wg => Lib.hid (within_any x 8 wg (by omega) (by omega) hx64.1 hx64.2)
        obtain ⟨y, hy⟩ : ∃ y, x % 8 = y := ⟨_, rfl⟩
        rw [hy] at W8 HS
        clear hx hy hil HR hx64
        go_wp2_with (first
          | (go_at_call 14; (with_reducible refine (W8 _).out.mono ?_); rintro e w2 ⟨rfl, rfl⟩)
          | (at_builtin; refine wpList_push elt31 (E := eI) (l := modI (d.take i)) (x := y) _ _ rfl rfl rfl rfl rfl HO.out (by rw [HL.out]; omega) ?_; intro p3 c3 w3 HO3 HG3; rw [HL.out] at HO3 ⊢))
        go_roundw
        case rel => exact ⟨i + 1, p3, c3, by omega, by go_num, rfl, Lib.hid (by rw [HS.out]; exact HO3.out)⟩
        case measure => simp [intOf]; omega
      · obtain rfl : i = m := by omega
        have HF := Lib.hid (show modI (d.take i) = modI d by rw [← HM.out, List.take_length])
        rw [HF.out] at HO
        have HML := Lib.hid (show (modI d).length = i by unfold modI; rw [List.length_map, HM.out])
        have HDR := Lib.hid (HO.out.rd (by rw [HML.out]; omega))
        have HNR2 := Lib.hid (HNR.out.keep HO.out.below)
        have HB2 := Lib.hid (HB1.out.trans (HO.out.below.mono HB1.out.size))
        have hzz1 : (z1 == z1) = true := by simp
        have hzz2 : (z2 == z2) = true := by simp
        go_wp2_with (first
          | (go_at_call 14; (with_reducible refine (W2 _).out.mono ?_); rintro e w2 ⟨rfl, rfl⟩)
          | (go_at_call 14; (with_reducible refine (W3 _).out.mono ?_); rintro e w2 ⟨rfl, rfl⟩)
          | (go_at_call 12; (with_reducible refine (awake_any _).mono ?_); rintro e w7 ⟨rfl, hb⟩; have HB7 := Lib.hid (HB2.out.trans (hb.mono HB2.out.size)); have HN7 := Lib.hid (HNR2.out.keep hb); have HD7 := Lib.hid (HDR.out.keep hb); clear hb)
          | (go_at_call 20; (with_reducible refine (K20 _ HB7.out).out.mono ?_); rintro e w8 ⟨rfl, hb⟩; have HB8 := Lib.hid (HB7.out.trans (hb.mono HB7.out.size)); have HN8 := Lib.hid (HN7.out.keep hb); have HD8 := Lib.hid (HD7.out.keep hb); clear hb)
          | (go_at_call 21; (with_reducible refine (K21 _ HB8.out).out.mono ?_); rintro e w9 ⟨rfl, hb⟩; have HB9 := Lib.hid (HB8.out.trans (hb.mono HB8.out.size)); have HN9 := Lib.hid (HN8.out.keep hb); have HD9 := Lib.hid (HD8.out.keep hb); clear hb)
          | (go_at_call 20; (with_reducible refine (Survives_as _ _ (1 + k') (1 + s') (nearL l) (modI d) _ HN9.out HD9.out (by rw [HNL.out]; omega) HZ2.out).mono ?_); rintro e w10 ⟨rfl, hb⟩; have HB10 := Lib.hid (HB9.out.trans (hb.mono HB9.out.size)); have HN10 := Lib.hid (HN9.out.keep hb); have HD10 := Lib.hid (HD9.out.keep hb); clear hb)
          | (go_at_call 21; (with_reducible refine (RSurvives_as _ _ (1 + k') (1 + s') (nearL l) (modI d) _ HN10.out HD10.out (by rw [HNL.out]; omega) HZ2.out).mono ?_); rintro e w11 ⟨rfl, hb⟩; have HB11 := Lib.hid (HB10.out.trans (hb.mono HB10.out.size)); clear hb))
        go_ret
        exact ⟨rfl, HB11.out⟩
end Go.Proofs.Ythljjllcdocfiaa
