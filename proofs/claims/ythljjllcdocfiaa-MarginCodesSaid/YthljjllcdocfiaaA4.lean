/- Walks: Margin. -/
import Derived.Test.YthljjllcdocfiaaA3
set_option linter.unusedVariables false
set_option linter.unusedSimpArgs false
set_option linter.unnecessarySimpa false
namespace Go.Proofs.Ythljjllcdocfiaa
open Go Go.RowKit Go.MapKept

theorem least_le (l : List Cp) : ∀ n, leastN l n ≤ 8
  | 0 => Nat.le_refl _
  | n + 1 => Nat.le_trans (Nat.min_le_left _ _) (least_le l n)
set_option maxHeartbeats 2000000 in
theorem Margin_as (v : Value) (k st : Int) (l : List Cp) (w : World) (h : Rd eC w v l) {m e : Int} (hm : margF k st l = (m, e)) : Calls Try.prog 15 #[.int .i64 k, .int .i64 st, v] w fun z w' => z = .returned (.tuple #[.int .i64 m, .int .i64 e]) ∧ Below w.heap.size w w' := by
  obtain ⟨a, cap, rfl, hlen⟩ := h.open
  have H := Lib.hid h
  obtain ⟨n, hn⟩ : ∃ n, l.length = n := ⟨_, rfl⟩
  rw [hn]
  rw [hn] at hlen
  have HN := Lib.hid hn
  clear h hn
  obtain ⟨q, hq⟩ : ∃ q, validB k st = q := ⟨_, rfl⟩
  have HV := Lib.hid hq
  have KV := fun w => Lib.hid (show Calls Try.prog 30 #[.int .i64 k, .int .i64 st] w (fun e w' => e = .returned (.bool q) ∧ w = w') from hq ▸ valid_any k st w)
  unfold margF at hm
  rw [hq] at hm
  cases q with
  | false =>
    simp at hm
    obtain ⟨rfl, rfl⟩ := hm
    clear hq
    go_enter Try.func15, Try.ntmps15
    go_wp2_with (first
      | (go_at_call 30; (with_reducible refine (KV _).out.mono ?_); rintro e w1 ⟨rfl, rfl⟩))
    go_ret2
    exact ⟨rfl, Below.refl _ _⟩
  | true =>
    simp at hm
    obtain ⟨hm, rfl⟩ := hm
    obtain ⟨st, rfl⟩ : ∃ S : Nat, st = S := ⟨st.toNat, by have := HV.out; simp [validB] at this; omega⟩
    have hst : st ≤ 4 := by have := HV.out; simp [validB] at this; omega
    have hk : 1 ≤ k ∧ k ≤ 6 := by have := HV.out; simp [validB] at this; omega
    have HM := Lib.hid hm
    clear hq hm
    go_enter Try.func15, Try.ntmps15
    go_wp2_with (first
      | (go_at_call 30; (with_reducible refine (KV _).out.mono ?_); rintro e w1 ⟨rfl, rfl⟩))
    go_loopw [8, 15] (fun x y wr => ∃ i g : Nat, i ≤ st ∧ y = .int .i64 i ∧ x = .int .i64 g ∧ Hid (leastN l i = g) ∧ Hid (Below w.heap.size w wr)) (fun _ y _ => st - (intOf y).toNat)
    case atStart => exact ⟨0, 8, by omega, rfl, rfl, Lib.hid rfl, Lib.hid (Below.refl _ _)⟩
    case round =>
      rename World => wr
      obtain ⟨i, g, hi, rfl, rfl, HG, HB⟩ := hrel
      by_cases hist : i < st
      · have HR := Lib.hid (H.out.below HB.out (Nat.le_refl _))
        have KI := fun w (h : Rd eC w (.slice a n cap) l) => Lib.hid (Intact_any _ l i w h)
        obtain ⟨r, hr⟩ : ∃ r, (intactL l i).length = r := ⟨_, rfl⟩
        have HRL := Lib.hid hr
        have hr8 : r ≤ 8 := by rw [← hr]; exact intact_len l i
        have hg8 : g ≤ 8 := by rw [← HG.out]; exact least_le l i
        have HS := Lib.hid (show leastN l (i + 1) = min g r by rw [← HG.out, ← hr]; rfl)
        clear hr
        by_cases hlt : r < g
        · go_wp2_with (first
            | (go_at_call 18; (with_reducible refine (KI _ (HN.out ▸ HR.out)).out.mono ?_); rintro e w1 ⟨p, c, rfl, ho⟩; have HB1 := Lib.hid (HB.out.trans (ho.below.mono HB.out.size)); rw [HRL.out]; clear ho))
          go_roundw
          case rel => exact ⟨i + 1, r, by omega, by go_num, by go_num, Lib.hid (by rw [HS.out]; omega), HB1⟩
          case measure => simp [intOf]; omega
        · go_wp2_with (first
            | (go_at_call 18; (with_reducible refine (KI _ (HN.out ▸ HR.out)).out.mono ?_); rintro e w1 ⟨p, c, rfl, ho⟩; have HB1 := Lib.hid (HB.out.trans (ho.below.mono HB.out.size)); rw [HRL.out]; clear ho))
          go_roundw
          case rel => exact ⟨i + 1, g, by omega, by go_num, by go_num, Lib.hid (by rw [HS.out]; omega), HB1⟩
          case measure => simp [intOf]; omega
      · obtain rfl : i = st := by omega
        have hg8 : g ≤ 8 := by rw [← HG.out]; exact least_le l i
        go_wp2_with fail
        go_ret2
        refine ⟨?_, HB.out⟩
        have := HM.out
        rw [Int.toNat_natCast, HG.out] at this
        subst this
        rfl
set_option maxHeartbeats 2000000 in
theorem RMargin_as (v : Value) (k st : Int) (l : List Cp) (w : World) (h : Rd eC w v l) {m e : Int} (hm : margF k st l = (m, e)) : Calls Try.prog 16 #[.int .i64 k, .int .i64 st, v] w fun z w' => z = .returned (.tuple #[.int .i64 m, .int .i64 e]) ∧ Below w.heap.size w w' := by
  obtain ⟨a, cap, rfl, hlen⟩ := h.open
  have H := Lib.hid h
  obtain ⟨n, hn⟩ : ∃ n, l.length = n := ⟨_, rfl⟩
  rw [hn]
  rw [hn] at hlen
  have HN := Lib.hid hn
  clear h hn
  obtain ⟨q, hq⟩ : ∃ q, validB k st = q := ⟨_, rfl⟩
  have HV := Lib.hid hq
  have KV := fun w => Lib.hid (show Calls Try.prog 25 #[.int .i64 k, .int .i64 st] w (fun e w' => e = .returned (.bool q) ∧ w = w') from hq ▸ Valid_any k st w)
  unfold margF at hm
  rw [hq] at hm
  cases q with
  | false =>
    simp at hm
    obtain ⟨rfl, rfl⟩ := hm
    clear hq
    go_enter Try.func16, Try.ntmps16
    go_wp2_with (first
      | (go_at_call 25; (with_reducible refine (KV _).out.mono ?_); rintro e w1 ⟨rfl, rfl⟩))
    go_ret2
    exact ⟨rfl, Below.refl _ _⟩
  | true =>
    simp at hm
    obtain ⟨hm, rfl⟩ := hm
    obtain ⟨st, rfl⟩ : ∃ S : Nat, st = S := ⟨st.toNat, by have := HV.out; simp [validB] at this; omega⟩
    have hst : st ≤ 4 := by have := HV.out; simp [validB] at this; omega
    have hk : 1 ≤ k ∧ k ≤ 6 := by have := HV.out; simp [validB] at this; omega
    have HM := Lib.hid hm
    clear hq hm
    go_enter Try.func16, Try.ntmps16
    go_wp2_with (first
      | (go_at_call 25; (with_reducible refine (KV _).out.mono ?_); rintro e w1 ⟨rfl, rfl⟩))
    go_loopw [8, 9] (fun x y wr => ∃ i g : Nat, i ≤ st ∧ y = .int .i64 i ∧ x = .int .i64 g ∧ Hid (leastN l i = g) ∧ Hid (Below w.heap.size w wr)) (fun _ y _ => st - (intOf y).toNat)
    case atStart => exact ⟨0, 8, by omega, rfl, rfl, Lib.hid rfl, Lib.hid (Below.refl _ _)⟩
    case round =>
      rename World => wr
      obtain ⟨i, g, hi, rfl, rfl, HG, HB⟩ := hrel
      by_cases hist : i < st
      · have HR := Lib.hid (H.out.below HB.out (Nat.le_refl _))
        have KI := fun w (h : Rd eC w (.slice a n cap) l) => Lib.hid (RIntact_any _ l i w h)
        obtain ⟨r, hr⟩ : ∃ r, (intactL l i).length = r := ⟨_, rfl⟩
        have HRL := Lib.hid hr
        have hr8 : r ≤ 8 := by rw [← hr]; exact intact_len l i
        have hg8 : g ≤ 8 := by rw [← HG.out]; exact least_le l i
        have HS := Lib.hid (show leastN l (i + 1) = min g r by rw [← HG.out, ← hr]; rfl)
        clear hr
        by_cases hlt : r < g
        · go_wp2_with (first
            | (go_at_call 19; (with_reducible refine (KI _ (HN.out ▸ HR.out)).out.mono ?_); rintro e w1 ⟨p, c, rfl, ho⟩; have HB1 := Lib.hid (HB.out.trans (ho.below.mono HB.out.size)); rw [HRL.out]; clear ho))
          go_roundw
          case rel => exact ⟨i + 1, r, by omega, by go_num, by go_num, Lib.hid (by rw [HS.out]; omega), HB1⟩
          case measure => simp [intOf]; omega
        · go_wp2_with (first
            | (go_at_call 19; (with_reducible refine (KI _ (HN.out ▸ HR.out)).out.mono ?_); rintro e w1 ⟨p, c, rfl, ho⟩; have HB1 := Lib.hid (HB.out.trans (ho.below.mono HB.out.size)); rw [HRL.out]; clear ho))
          go_roundw
          case rel => exact ⟨i + 1, g, by omega, by go_num, by go_num, Lib.hid (by rw [HS.out]; omega), HB1⟩
          case measure => simp [intOf]; omega
      · obtain rfl : i = st := by omega
        have hg8 : g ≤ 8 := by rw [← HG.out]; exact least_le l i
        go_wp2_with fail
        go_ret2
        refine ⟨?_, HB.out⟩
        have := HM.out
        rw [Int.toNat_natCast, HG.out] at this
        subst this
        rfl
end Go.Proofs.Ythljjllcdocfiaa
