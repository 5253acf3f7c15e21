/- Walks: Survives, the order of sets. -/
import Derived.Test.YthljjllcdocfiaaA5
set_option linter.unusedVariables false
set_option linter.unusedSimpArgs false
set_option linter.unnecessarySimpa false
namespace Go.Proofs.Ythljjllcdocfiaa
open Go Go.RowKit Go.MapKept

set_option maxHeartbeats 4000000 in
theorem Survives_as (v d : Value) (k st : Int) (l : List Cp) (down : List Int) (w : World) (h : Rd eC w v l) (hd : Rd eI w d down) (hl : l.length ≤ 1000) {q : Bool} (hq : survF k st l down = q) : Calls Try.prog 20 #[.int .i64 k, .int .i64 st, v, d] w fun e w' => e = .returned (.bool q) ∧ Below w.heap.size w w' := by
  obtain ⟨a, cap, rfl, hlen⟩ := h.open
  obtain ⟨a2, cap2, rfl, hlen2⟩ := hd.open
  obtain ⟨m, e, hm⟩ : ∃ m e, margF k st (withoutL l down) = (m, e) := ⟨_, _, rfl⟩
  have HM := Lib.hid hm
  have HQ := Lib.hid ((surv_eq k st l down hm).symm.trans hq)
  have H := Lib.hid h
  have HD := Lib.hid hd
  obtain ⟨n, hn⟩ : ∃ n, l.length = n := ⟨_, rfl⟩
  obtain ⟨n2, hn2⟩ : ∃ n, down.length = n := ⟨_, rfl⟩
  have HN := Lib.hid hn
  have HN2 := Lib.hid hn2
  rw [hn] at hlen hl ⊢
  rw [hn2] at hlen2 ⊢
  clear h hd hn hn2 hq hm
  go_enter Try.func20, Try.ntmps20
  go_wp2_with fail
  go_loopw [9, 16] (fun x y wr => ∃ (k : Nat) (p : Option Addr) (c : Nat), k ≤ n ∧ y = .int .i64 k ∧ x = .slice p (withoutL (l.take k) down).length c ∧ Hid (Ow eC 44 w wr (.slice p (withoutL (l.take k) down).length c) (withoutL (l.take k) down))) (fun _ y _ => n - (intOf y).toNat)
  case atStart => exact ⟨0, none, 0, by omega, rfl, rfl, Lib.hid (Ow.start 44 w)⟩
  case round =>
    rename World => wr
    obtain ⟨i, p, c, hk, rfl, rfl, HO⟩ := hrel
    by_cases hkn : i < n
    · obtain ⟨x, hx⟩ : ∃ x, l[i]? = some x := ⟨l[i]'(by rw [HN.out]; exact hkn), by simp⟩
      have HR := H.out.below HO.out.below (Nat.le_refl _)
      rw [HN.out] at HR
      obtain ⟨b, off, rfl, hb, c0, c1, c2⟩ := HR.cp hx
      have HS := Lib.hid (without_take hx down)
      have HL := Lib.hid (without_len l down i)
      obtain ⟨f, dd, t⟩ := x
      simp only at c0 c1 c2
      have HO1 := Lib.hid (HO.out.grow (below_alloc wr (.cells #[.int .i64 f, .int .i64 dd, .int .i64 t] 44)))
      have HD2 := Lib.hid (HD.out.below HO1.out.below (Nat.le_refl _))
      rw [HN2.out] at HD2
      obtain ⟨z, hz⟩ : ∃ z, hasI down dd = z := ⟨_, rfl⟩
      have HZ := Lib.hid hz
      clear hx HR hz
      cases z with
      | true =>
        have HE := Lib.hid (show withoutL (l.take (i + 1)) down = withoutL (l.take i) down by rw [HS.out]; simp only [HZ.out]; simp)
        go_wp2_with (first
          | (go_at_call 33; (with_reducible refine (contains_as _ down _ _ HD2.out HZ.out).mono ?_); rintro e w1 ⟨rfl, rfl⟩))
        go_roundw
        case rel => exact ⟨i + 1, p, c, by omega, by go_num, by rw [HE.out], Lib.hid (by rw [HE.out]; exact HO1.out)⟩
        case measure => simp [intOf]; omega
      | false =>
        have HE := Lib.hid (show withoutL (l.take (i + 1)) down = withoutL (l.take i) down ++ [(f, dd, t)] by rw [HS.out]; simp only [HZ.out]; simp)
        have HE2 := Lib.hid (show (withoutL (l.take (i + 1)) down).length = (withoutL (l.take i) down).length + 1 by rw [HE.out]; simp)
        go_wp2_with (first
          | (go_at_call 33; (with_reducible refine (contains_as _ down _ _ HD2.out HZ.out).mono ?_); rintro e w1 ⟨rfl, rfl⟩)
          | (at_builtin; refine wpList_push elt22 (E := eC) (x := (f, dd, t)) _ _ rfl rfl rfl rfl (by simp) HO1.out (by have := HL.out; omega) ?_; intro p2 c2 w2 HO2 HG2))
        go_roundw
        case rel => exact ⟨i + 1, p2, c2, by omega, by go_num, by rw [HE2.out], Lib.hid (by rw [HE2.out, HE.out]; exact HO2.out)⟩
        case measure => simp [intOf]; omega
    · obtain rfl : i = n := by omega
      have HE := Lib.hid (show withoutL (l.take i) down = withoutL l down by rw [← HN.out, List.take_length])
      rw [HE.out] at HO ⊢
      have HW := Lib.hid (HO.out.rd (by rw [← HE.out]; have := without_len l down i; omega))
      obtain ⟨y, hy⟩ : ∃ y, (e == 0) = y := ⟨_, rfl⟩
      have HY := Lib.hid hy
      generalize (withoutL l down).length = r at *
      cases y with
      | true =>
        go_wp2_with (first
          | (go_at_call 15; (with_reducible refine (Margin_as _ k st _ _ HW.out HM.out).mono ?_); rintro e w1 ⟨rfl, hb1⟩; have HB1 := Lib.hid (HO.out.below.trans (hb1.mono HO.out.below.size)); clear hb1))
        go_ret
        have h1 := HQ.out
        rw [HY.out] at h1
        exact ⟨ret_bool (by rw [← h1]; rfl), HB1.out⟩
      | false =>
        go_wp2_with (first
          | (go_at_call 15; (with_reducible refine (Margin_as _ k st _ _ HW.out HM.out).mono ?_); rintro e w1 ⟨rfl, hb1⟩; have HB1 := Lib.hid (HO.out.below.trans (hb1.mono HO.out.below.size)); clear hb1))
        go_ret
        have h1 := HQ.out
        rw [HY.out] at h1
        exact ⟨ret_bool (by rw [← h1]; rfl), HB1.out⟩

set_option maxHeartbeats 4000000 in
theorem RSurvives_as (v d : Value) (k st : Int) (l : List Cp) (down : List Int) (w : World) (h : Rd eC w v l) (hd : Rd eI w d down) (hl : l.length ≤ 1000) {q : Bool} (hq : survF k st l down = q) : Calls Try.prog 21 #[.int .i64 k, .int .i64 st, v, d] w fun e w' => e = .returned (.bool q) ∧ Below w.heap.size w w' := by
  obtain ⟨a, cap, rfl, hlen⟩ := h.open
  obtain ⟨a2, cap2, rfl, hlen2⟩ := hd.open
  obtain ⟨m, e, hm⟩ : ∃ m e, margF k st (withoutL l down) = (m, e) := ⟨_, _, rfl⟩
  have HM := Lib.hid hm
  have HQ := Lib.hid ((surv_eq k st l down hm).symm.trans hq)
  have K := Lib.hid (without_any _ _ l down w h hd hl)
  have hl2 : (withoutL l down).length ≤ 1000 := by have := without_len l down l.length; rw [List.take_length] at this; omega
  generalize l.length = n at *
  generalize down.length = n2 at *
  clear h hd hq hm
  obtain ⟨y, hy⟩ : ∃ y, (e == 0) = y := ⟨_, rfl⟩
  have HY := Lib.hid hy
  cases y with
  | true =>
    go_enter Try.func21, Try.ntmps21
    go_wp2_with (first
      | (go_at_call 34; (with_reducible refine K.out.mono ?_); rintro e w1 ⟨p, c, rfl, ho⟩; have HO := Lib.hid ho; have HW := Lib.hid (ho.rd (by omega)); clear ho)
      | (go_at_call 16; (with_reducible refine (RMargin_as _ k st _ _ HW.out HM.out).mono ?_); rintro e w1 ⟨rfl, hb1⟩; have HB1 := Lib.hid (HO.out.below.trans (hb1.mono HO.out.below.size)); clear hb1))
    go_ret
    have h1 := HQ.out
    rw [HY.out] at h1
    exact ⟨ret_bool (by rw [← h1]; rfl), HB1.out⟩
  | false =>
    go_enter Try.func21, Try.ntmps21
    go_wp2_with (first
      | (go_at_call 34; (with_reducible refine K.out.mono ?_); rintro e w1 ⟨p, c, rfl, ho⟩; have HO := Lib.hid ho; have HW := Lib.hid (ho.rd (by omega)); clear ho)
      | (go_at_call 16; (with_reducible refine (RMargin_as _ k st _ _ HW.out HM.out).mono ?_); rintro e w1 ⟨rfl, hb1⟩; have HB1 := Lib.hid (HO.out.below.trans (hb1.mono HO.out.below.size)); clear hb1))
    go_ret
    have h1 := HQ.out
    rw [HY.out] at h1
    exact ⟨ret_bool (by rw [← h1]; rfl), HB1.out⟩
end Go.Proofs.Ythljjllcdocfiaa
