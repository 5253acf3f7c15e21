/- Walks: the order of sets: cmp.Compare, slices.Compare, before, Less, SameInts. -/
import Derived.Test.YthljjllcdocfiaaA6
set_option linter.unusedVariables false
set_option linter.unusedSimpArgs false
set_option linter.unnecessarySimpa false
namespace Go.Proofs.Ythljjllcdocfiaa
open Go Go.RowKit Go.MapKept

theorem drew_two (w : World) (a b : Nat) : (w.drewN a).drewN b = w.drewN (a + b) := by simp [World.drewN, Nat.add_assoc]
def lexB : List Int → List Int → Bool
  | [], _ => false
  | _ :: _, [] => false
  | x :: a, y :: b => if x = y then lexB a b else decide (x < y)
/-- a set comes before another: by size, then lexicographically -/
def lessL (a b : List Int) : Bool := if a.length = b.length then lexB a b else decide (a.length < b.length)
theorem getD_get {l : List Int} {k : Nat} (h : k < l.length) : l[k]? = some (l.getD k 0) := by simp [h]
theorem lex_drop {a b : List Int} {k : Nat} (ha : k < a.length) (hb : k < b.length) : lexB (a.drop k) (b.drop k) = if a.getD k 0 = b.getD k 0 then lexB (a.drop (k + 1)) (b.drop (k + 1)) else decide (a.getD k 0 < b.getD k 0) := by
  rw [drop_get (getD_get ha), drop_get (getD_get hb)]
  rfl
theorem lex_end {a b : List Int} {k : Nat} (ha : a.length = k) : lexB (a.drop k) (b.drop k) = false := by
  rw [List.drop_eq_nil_of_le (by omega)]
  rfl
set_option maxHeartbeats 1000000 in
theorem isnan_any (x : Int) (w : World) : Calls Try.prog 91 #[.int .i64 x] w fun e w' => e = .returned (.bool false) ∧ w = w' := by
  go_enter Try.func91, Try.ntmps91
  go_wp2_with fail
  go_ret
  exact ⟨rfl, rfl⟩
def cmpI (x y : Int) : Int := if x < y then -1 else if y < x then 1 else 0
set_option maxHeartbeats 1000000 in
theorem cmp_as (x y : Int) {r : Int} (hr : cmpI x y = r) (w : World) : Calls Try.prog 85 #[.int .i64 x, .int .i64 y] w fun e w' => e = .returned (.int .i64 r) ∧ w = w' := by
  unfold cmpI at hr
  rcases (by omega : x < y ∨ (¬ x < y ∧ y < x) ∨ (¬ x < y ∧ ¬ y < x)) with h | ⟨h, h2⟩ | ⟨h, h2⟩
  all_goals
    simp only [h, if_true, if_false] at hr
    try simp only [h2, if_true, if_false] at hr
    subst hr
    go_enter Try.func85, Try.ntmps85
    go_wp2_with (first
      | (go_at_call 91; (with_reducible refine (isnan_any _ _).mono ?_); rintro e w1 ⟨rfl, rfl⟩))
    go_ret
    exact ⟨rfl, rfl⟩
set_option maxHeartbeats 2000000 in
theorem compare_as (v u : Value) (l m : List Int) (w : World) (h : Rd eI w v l) (h2 : Rd eI w u m) (he : m.length = l.length) {q : Bool} (hq : lexB l m = q) : Calls Try.prog 55 #[v, u] w fun e w' => (∃ r : Int, e = .returned (.int .i64 r) ∧ decide (r < 0) = q) ∧ w = w' := by
  obtain ⟨a, cap, rfl, hlen⟩ := h.open
  obtain ⟨a2, cap2, rfl, hlen2⟩ := h2.open
  have H := Lib.hid h
  have H2 := Lib.hid h2
  have HQ := Lib.hid hq
  obtain ⟨n, hn⟩ : ∃ n, l.length = n := ⟨_, rfl⟩
  have HN := Lib.hid hn
  have HN2 := Lib.hid (he.trans hn)
  rw [he.trans hn]
  rw [hn] at hlen ⊢
  clear h h2 hq hlen2 hn he
  go_enter Try.func55, Try.ntmps55
  go_wp2_with fail
  go_loop [11] (fun y => ∃ k : Nat, k ≤ n ∧ y = .int .i64 k ∧ Hid (lexB (l.drop k) (m.drop k) = q)) (fun y => n - (intOf y).toNat)
  case atStart => exact ⟨0, by omega, rfl, HQ⟩
  case round =>
    obtain ⟨k, hk, rfl, HK⟩ := hrel
    by_cases hkn : k < n
    · have HR := H.out
      rw [HN.out] at HR
      have HR2 := H2.out
      rw [HN2.out] at HR2
      obtain ⟨b, off, rfl, hb, c0⟩ := HR.int (by rw [HN.out]; exact hkn)
      obtain ⟨b2, off2, rfl, hb2, c2⟩ := HR2.int (by rw [HN2.out]; exact hkn)
      have HS := Lib.hid ((lex_drop (a := l) (b := m) (by rw [HN.out]; exact hkn) (by rw [HN2.out]; exact hkn)).symm.trans HK.out)
      obtain ⟨x, hx⟩ : ∃ x, l.getD k 0 = x := ⟨_, rfl⟩
      obtain ⟨y, hy⟩ : ∃ x, m.getD k 0 = x := ⟨_, rfl⟩
      rw [hx] at c0 HS
      rw [hy] at c2 HS
      clear hx hy HR HR2
      rcases (by omega : x < y ∨ x = y ∨ y < x) with hxy | hxy | hxy
      · have HC := Lib.hid (show cmpI x y = -1 by unfold cmpI; rw [if_pos hxy])
        have HE := Lib.hid (show true = q by have := HS.out; rw [if_neg (by omega)] at this; simpa [hxy] using this)
        clear hxy
        go_wp2_with (first
          | (go_at_call 85; (with_reducible refine (cmp_as _ _ HC.out _).mono ?_); rintro e w1 ⟨rfl, rfl⟩))
        go_ret
        exact ⟨⟨-1, rfl, HE.out⟩, rfl⟩
      · subst hxy
        have HC := Lib.hid (show cmpI x x = 0 by unfold cmpI; simp)
        have HE := Lib.hid (show lexB (l.drop (k + 1)) (m.drop (k + 1)) = q by have := HS.out; rwa [if_pos rfl] at this)
        go_wp2_with (first
          | (go_at_call 85; (with_reducible refine (cmp_as _ _ HC.out _).mono ?_); rintro e w1 ⟨rfl, rfl⟩))
        go_round
        case rel => exact ⟨k + 1, by omega, by go_num, HE⟩
        case measure => simp [intOf]; omega
      · have HC := Lib.hid (show cmpI x y = 1 by unfold cmpI; rw [if_neg (by omega), if_pos hxy])
        have HE := Lib.hid (show false = q by have := HS.out; rw [if_neg (by omega)] at this; rw [← this]; simp; omega)
        clear hxy
        go_wp2_with (first
          | (go_at_call 85; (with_reducible refine (cmp_as _ _ HC.out _).mono ?_); rintro e w1 ⟨rfl, rfl⟩))
        go_ret
        exact ⟨⟨1, rfl, HE.out⟩, rfl⟩
    · obtain rfl : k = n := by omega
      go_wp2_with fail
      go_ret
      exact ⟨⟨0, rfl, (lex_end HN.out).symm.trans HK.out⟩, rfl⟩
set_option maxHeartbeats 2000000 in
theorem before_as (v u : Value) (l m : List Int) (w : World) (h : Rd eI w v l) (h2 : Rd eI w u m) {q : Bool} (hq : lessL l m = q) : Calls Try.prog 40 #[v, u] w fun e w' => e = .returned (.bool q) ∧ w = w' := by
  obtain ⟨a, cap, rfl, hlen⟩ := h.open
  obtain ⟨a2, cap2, rfl, hlen2⟩ := h2.open
  unfold lessL at hq
  by_cases he : l.length = m.length
  · rw [if_pos he] at hq
    have K := Lib.hid (compare_as _ _ l m w h h2 he.symm hq)
    rw [← he] at K ⊢
    clear h h2 hq hlen2 he
    generalize l.length = n at *
    go_enter Try.func40, Try.ntmps40
    go_wp2_with (first
      | (go_at_call 55; (with_reducible refine K.out.mono ?_); rintro e w1 ⟨⟨r, rfl, hr⟩, rfl⟩; have HR := Lib.hid hr; clear hr))
    go_ret
    exact ⟨ret_bool HR.out, rfl⟩
  · rw [if_neg he] at hq
    clear h h2
    generalize l.length = n at *
    generalize m.length = n2 at *
    have h0 : ((n : Int) != (n2 : Int)) = true := by simp; omega
    have HQ := Lib.hid hq
    clear hq
    go_enter Try.func40, Try.ntmps40
    go_wp2_with fail
    go_ret
    exact ⟨ret_bool HQ.out, rfl⟩
set_option maxHeartbeats 2000000 in
theorem less_as (v u : Value) (l m : List Int) (w : World) (h : Rd eI w v l) (h2 : Rd eI w u m) {q : Bool} (hq : lessL l m = q) : Calls Try.prog 29 #[v, u] w fun e w' => e = .returned (.bool q) ∧ ∃ z, w' = w.drewN z := by
  obtain ⟨a, cap, rfl, hlen⟩ := h.open
  obtain ⟨a2, cap2, rfl, hlen2⟩ := h2.open
  unfold lessL at hq
  by_cases he : l.length = m.length
  · rw [if_pos he] at hq
    have H := Lib.hid h
    have H2 := Lib.hid h2
    have HQ := Lib.hid hq
    obtain ⟨n, hn⟩ : ∃ n, l.length = n := ⟨_, rfl⟩
    have HN := Lib.hid hn
    have HN2 := Lib.hid (he.symm.trans hn)
    rw [he.symm.trans hn]
    rw [hn] at hlen ⊢
    clear h h2 hq hlen2 hn he
    go_enter Try.func29, Try.ntmps29
    go_wp2_with fail
    go_loopw [5] (fun y wr => ∃ k z : Nat, k ≤ n ∧ y = .int .i64 k ∧ wr = w.drewN z ∧ Hid (lexB (l.drop k) (m.drop k) = q)) (fun y _ => n - (intOf y).toNat)
    case atStart => exact ⟨0, 0, by omega, rfl, rfl, HQ⟩
    case round =>
      obtain ⟨k, z, hk, rfl, rfl, HK⟩ := hrel
      by_cases hkn : k < n
      · have HR := H.out
        rw [HN.out] at HR
        have HR2 := H2.out
        rw [HN2.out] at HR2
        obtain ⟨b, off, rfl, hb, c0⟩ := HR.int (by rw [HN.out]; exact hkn)
        obtain ⟨b2, off2, rfl, hb2, c2⟩ := HR2.int (by rw [HN2.out]; exact hkn)
        have HS := Lib.hid ((lex_drop (a := l) (b := m) (by rw [HN.out]; exact hkn) (by rw [HN2.out]; exact hkn)).symm.trans HK.out)
        obtain ⟨x, hx⟩ : ∃ x, l.getD k 0 = x := ⟨_, rfl⟩
        obtain ⟨y, hy⟩ : ∃ x, m.getD k 0 = x := ⟨_, rfl⟩
        rw [hx] at c0 HS
        rw [hy] at c2 HS
        clear hx hy HR HR2
        by_cases hxy : x = y
        · subst hxy
          have HE := Lib.hid (show lexB (l.drop (k + 1)) (m.drop (k + 1)) = q by have := HS.out; rwa [if_pos rfl] at this)
          go_wp2_with fail
          go_quiet (fail)
          go_wp2_with fail
          go_roundw
          case rel => exact ⟨k + 1, z + nq, by omega, by go_num, rfl, HE⟩
          case measure => simp [intOf]; omega
        · have hxy2 : (x != y) = true := by simpa using hxy
          have HE := Lib.hid (show decide (x < y) = q by have := HS.out; rwa [if_neg hxy] at this)
          clear hxy
          go_wp2_with fail
          go_quiet (fail)
          go_wp2_with fail
          go_quiet (fail)
          go_wp2_with fail
          go_ret
          exact ⟨ret_bool HE.out, _, by rw [drew_two, drew_two]⟩
      · obtain rfl : k = n := by omega
        go_wp2_with fail
        go_ret
        exact ⟨ret_bool ((lex_end HN.out).symm.trans HK.out), _, rfl⟩
  · rw [if_neg he] at hq
    clear h h2
    generalize l.length = n at *
    generalize m.length = n2 at *
    have h0 : ((n : Int) != (n2 : Int)) = true := by simp; omega
    have HQ := Lib.hid hq
    clear hq
    go_enter Try.func29, Try.ntmps29
    go_wp2_with fail
    go_ret
    exact ⟨ret_bool HQ.out, 0, rfl⟩
end Go.Proofs.Ythljjllcdocfiaa
