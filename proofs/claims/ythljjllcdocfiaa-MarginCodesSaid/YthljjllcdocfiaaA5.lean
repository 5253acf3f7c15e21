/- Walks: Contains, has, Survives, Without. -/
import Derived.Test.YthljjllcdocfiaaA4
set_option linter.unusedVariables false
set_option linter.unusedSimpArgs false
set_option linter.unnecessarySimpa false
namespace Go.Proofs.Ythljjllcdocfiaa
open Go Go.RowKit Go.MapKept

set_option maxHeartbeats 2000000 in
theorem index_any (v : Value) (l : List Int) (x : Int) (w : World) (h : Rd eI w v l) : Calls Try.prog 48 #[v, .int .i64 x] w fun e w' => (∃ r : Int, e = .returned (.int .i64 r) ∧ decide (0 ≤ r) = hasI l x) ∧ w = w' := by
  obtain ⟨a, cap, rfl, hlen⟩ := h.open
  have H := Lib.hid h
  obtain ⟨n, hn⟩ : ∃ n, l.length = n := ⟨_, rfl⟩
  have HN := Lib.hid hn
  rw [hn] at hlen ⊢
  clear h hn
  go_enter Try.func48, Try.ntmps48
  go_wp2_with fail
  go_loop [8] (fun y => ∃ k : Nat, k ≤ n ∧ y = .int .i64 k ∧ Hid (hasI (l.take k) x = false)) (fun y => n - (intOf y).toNat)
  case atStart => exact ⟨0, by omega, rfl, Lib.hid rfl⟩
  case round =>
    obtain ⟨k, hk, rfl, HK⟩ := hrel
    by_cases hkn : k < n
    · have hkl : k < l.length := by rw [HN.out]; exact hkn
      have HR := H.out
      rw [HN.out] at HR
      obtain ⟨b, off, rfl, hb, c0⟩ := HR.int hkl
      have HS := Lib.hid (hasI_take (x := x) hkl)
      obtain ⟨z, hz⟩ : ∃ z, l.getD k 0 = z := ⟨_, rfl⟩
      rw [hz] at c0
      have HZ := Lib.hid hz
      clear hz HR hkl
      obtain ⟨q, hq⟩ : ∃ q, (x == z) = q := ⟨_, rfl⟩
      have HQ := Lib.hid hq
      cases q with
      | true =>
        go_wp2_with fail
        go_ret
        refine ⟨⟨k, rfl, ?_⟩, rfl⟩
        have h1 : hasI (l.take (k + 1)) x = true := by rw [HS.out, HZ.out, HQ.out]; simp
        have h2 : x ∈ l := List.mem_of_mem_take (hasI_iff.1 h1)
        rw [hasI_iff.2 h2]
        simp
      | false =>
        go_wp2_with fail
        go_round
        case rel => exact ⟨k + 1, by omega, by go_num, Lib.hid (by rw [HS.out, HZ.out, HQ.out, HK.out]; rfl)⟩
        case measure => simp [intOf]; omega
    · obtain rfl : k = n := by omega
      go_wp2_with fail
      go_ret
      refine ⟨⟨-1, rfl, ?_⟩, rfl⟩
      have := HK.out
      rw [← HN.out, List.take_length] at this
      rw [this]
      rfl
set_option maxHeartbeats 1000000 in
theorem contains_as (v : Value) (l : List Int) (x : Int) (w : World) (h : Rd eI w v l) {q : Bool} (hq : hasI l x = q) : Calls Try.prog 33 #[v, .int .i64 x] w fun e w' => e = .returned (.bool q) ∧ w = w' := by
  obtain ⟨a, cap, rfl, hlen⟩ := h.open
  have K := Lib.hid (index_any _ l x w h)
  have HQ := Lib.hid hq
  clear h hq
  generalize l.length = n at *
  go_enter Try.func33, Try.ntmps33
  go_wp2_with (first
    | (go_at_call 48; (with_reducible refine K.out.mono ?_); rintro e w1 ⟨⟨r, rfl, hr⟩, rfl⟩; rw [HQ.out] at hr; have HR := Lib.hid hr; clear hr))
  go_ret
  exact ⟨ret_bool HR.out, rfl⟩
set_option maxHeartbeats 2000000 in
theorem has_as (v : Value) (l : List Int) (x : Int) (w : World) (h : Rd eI w v l) {p : Bool} (hp : hasI l x = p) : Calls Try.prog 44 #[v, .int .i64 x] w fun e w' => e = .returned (.bool p) ∧ w = w' := by
  obtain ⟨a, cap, rfl, hlen⟩ := h.open
  have H := Lib.hid h
  have HP := Lib.hid hp
  obtain ⟨n, hn⟩ : ∃ n, l.length = n := ⟨_, rfl⟩
  have HN := Lib.hid hn
  rw [hn] at hlen ⊢
  clear h hn hp
  go_enter Try.func44, Try.ntmps44
  go_wp2_with fail
  go_loop [5] (fun y => ∃ k : Nat, k ≤ n ∧ y = .int .i64 k ∧ Hid (hasI (l.take k) x = false)) (fun y => n - (intOf y).toNat)
  case atStart => exact ⟨0, by omega, rfl, Lib.hid rfl⟩
  case round =>
    obtain ⟨k, hk, rfl, HK⟩ := hrel
    by_cases hkn : k < n
    · have hkl : k < l.length := by rw [HN.out]; exact hkn
      have HR := H.out
      rw [HN.out] at HR
      obtain ⟨b, off, rfl, hb, c0⟩ := HR.int hkl
      have HS := Lib.hid (hasI_take (x := x) hkl)
      obtain ⟨z, hz⟩ : ∃ z, l.getD k 0 = z := ⟨_, rfl⟩
      rw [hz] at c0
      have HZ := Lib.hid hz
      clear hz HR hkl
      obtain ⟨q, hq⟩ : ∃ q, (z == x) = q := ⟨_, rfl⟩
      have HQ := Lib.hid (show (x == z) = q by rw [← hq]; exact Bool.eq_iff_iff.2 (by simp only [beq_iff_eq]; exact eq_comm))
      cases q with
      | true =>
        go_wp2_with fail
        go_ret
        have h1 : hasI (l.take (k + 1)) x = true := by rw [HS.out, HZ.out, HQ.out]; simp
        have h2 : x ∈ l := List.mem_of_mem_take (hasI_iff.1 h1)
        have h3 := HP.out
        rw [hasI_iff.2 h2] at h3
        exact ⟨ret_bool h3, rfl⟩
      | false =>
        go_wp2_with fail
        go_round
        case rel => exact ⟨k + 1, by omega, by go_num, Lib.hid (by rw [HS.out, HZ.out, HQ.out, HK.out]; rfl)⟩
        case measure => simp [intOf]; omega
    · obtain rfl : k = n := by omega
      go_wp2_with fail
      go_ret
      have := HK.out
      rw [← HN.out, List.take_length, HP.out] at this
      exact ⟨ret_bool this.symm, rfl⟩

/-- what is left of the first copies -/
theorem without_take {l : List Cp} {k : Nat} {c : Cp} (h : l[k]? = some c) (down : List Int) : withoutL (l.take (k + 1)) down = withoutL (l.take k) down ++ if hasI down c.2.1 then [] else [c] := by
  unfold withoutL
  rw [List.take_add_one, h, List.filter_append]
  congr 1
  cases q : hasI down c.2.1 <;> simp_all
theorem without_len (l : List Cp) (down : List Int) (k : Nat) : (withoutL (l.take k) down).length ≤ k := by
  have := List.length_filter_le (fun c : Cp => !hasI down c.2.1) (l.take k)
  rw [List.length_take] at this
  unfold withoutL
  omega
theorem surv_eq (k st : Int) (l : List Cp) (down : List Int) {m e : Int} (hm : margF k st (withoutL l down) = (m, e)) : survF k st l down = ((e == 0) && decide (0 ≤ m)) := by
  unfold survF
  rw [hm]

/-- the call hands back copies -/
def IsCps (w : World) (L : List Cp) (e : Ending) (w' : World) : Prop := ∃ p cap, e = .returned (.slice p L.length cap) ∧ Ow eC 44 w w' (.slice p L.length cap) L

set_option maxHeartbeats 4000000 in
theorem without_any (v d : Value) (l : List Cp) (down : List Int) (w : World) (h : Rd eC w v l) (hd : Rd eI w d down) (hl : l.length ≤ 1000) : Calls Try.prog 34 #[v, d] w (IsCps w (withoutL l down)) := by
  obtain ⟨a, cap, rfl, hlen⟩ := h.open
  obtain ⟨a2, cap2, rfl, hlen2⟩ := hd.open
  have H := Lib.hid h
  have HD := Lib.hid hd
  obtain ⟨n, hn⟩ : ∃ n, l.length = n := ⟨_, rfl⟩
  obtain ⟨n2, hn2⟩ : ∃ n, down.length = n := ⟨_, rfl⟩
  have HN := Lib.hid hn
  have HN2 := Lib.hid hn2
  rw [hn] at hlen hl ⊢
  rw [hn2] at hlen2 ⊢
  clear h hd hn hn2
  go_enter Try.func34, Try.ntmps34
  go_wp2_with fail
  go_loopw [5, 6] (fun x y wr => ∃ (k : Nat) (p : Option Addr) (c : Nat), k ≤ n ∧ y = .int .i64 k ∧ x = .slice p (withoutL (l.take k) down).length c ∧ Hid (Ow eC 44 w wr (.slice p (withoutL (l.take k) down).length c) (withoutL (l.take k) down))) (fun _ y _ => n - (intOf y).toNat)
  case atStart => exact ⟨0, none, 0, by omega, rfl, rfl, Lib.hid (Ow.start 44 w)⟩
  case round =>
    rename World => wr
    obtain ⟨k, p, c, hk, rfl, rfl, HO⟩ := hrel
    by_cases hkn : k < n
    · obtain ⟨x, hx⟩ : ∃ x, l[k]? = some x := ⟨l[k]'(by rw [HN.out]; exact hkn), by simp⟩
      have HR := H.out.below HO.out.below (Nat.le_refl _)
      rw [HN.out] at HR
      obtain ⟨b, off, rfl, hb, c0, c1, c2⟩ := HR.cp hx
      have HS := Lib.hid (without_take hx down)
      have HL := Lib.hid (without_len l down k)
      obtain ⟨f, d, t⟩ := x
      simp only at c0 c1 c2
      have HD2 := Lib.hid (HD.out.below HO.out.below (Nat.le_refl _))
      rw [HN2.out] at HD2
      obtain ⟨q, hq⟩ : ∃ q, hasI down d = q := ⟨_, rfl⟩
      have HQ := Lib.hid hq
      clear hx HR hq
      cases q with
      | true =>
        have HE := Lib.hid (show withoutL (l.take (k + 1)) down = withoutL (l.take k) down by rw [HS.out]; simp only [HQ.out]; simp)
        go_wp2_with (first
          | (go_at_call 44; (with_reducible refine (has_as _ down _ _ HD2.out HQ.out).mono ?_); rintro e w1 ⟨rfl, rfl⟩))
        go_roundw
        case rel => exact ⟨k + 1, p, c, by omega, by go_num, by rw [HE.out], Lib.hid (by rw [HE.out]; exact HO.out)⟩
        case measure => simp [intOf]; omega
      | false =>
        have HE := Lib.hid (show withoutL (l.take (k + 1)) down = withoutL (l.take k) down ++ [(f, d, t)] by rw [HS.out]; simp only [HQ.out]; simp)
        have HE2 := Lib.hid (show (withoutL (l.take (k + 1)) down).length = (withoutL (l.take k) down).length + 1 by rw [HE.out]; simp)
        go_wp2_with (first
          | (go_at_call 44; (with_reducible refine (has_as _ down _ _ HD2.out HQ.out).mono ?_); rintro e w1 ⟨rfl, rfl⟩)
          | (at_builtin; refine wpList_push elt22 (E := eC) (x := (f, d, t)) _ _ rfl rfl rfl rfl rfl HO.out (by have := HL.out; omega) ?_; intro p2 c2 w2 HO2 HG2))
        go_roundw
        case rel => exact ⟨k + 1, p2, c2, by omega, by go_num, by rw [HE2.out], Lib.hid (by rw [HE2.out, HE.out]; exact HO2.out)⟩
        case measure => simp [intOf]; omega
    · obtain rfl : k = n := by omega
      have HE := Lib.hid (show withoutL (l.take k) down = withoutL l down by rw [← HN.out, List.take_length])
      go_wp2_with fail
      go_ret
      exact ⟨p, c, by rw [HE.out]; rfl, by have := HO.out; rw [HE.out] at this; exact this⟩
end Go.Proofs.Ythljjllcdocfiaa
