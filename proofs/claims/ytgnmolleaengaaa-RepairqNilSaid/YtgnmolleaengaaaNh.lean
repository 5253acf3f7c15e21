/- The walks of the reference's naturals: Trim, large, Cmp, Make. -/
import Derived.Test.YtgnmolleaengaaaNf
set_option linter.unusedVariables false
set_option linter.unusedSimpArgs false
set_option linter.unnecessarySimpa false
namespace Go.Proofs.Ytgnmolleaengaaa
open Go Go.RowKit

theorem rtrim_any {w : World} {v : Value} {l : List Nat} (h : Rd eU w v l) (hl : clen l ≤ 5000) : Calls Try.prog 41 #[v] w (SlPost w (trim l)) := by
  obtain ⟨a, cap, rfl, hlen⟩ := h.open
  obtain ⟨n, hn⟩ : ∃ n, n = l.length := ⟨_, rfl⟩
  obtain ⟨c, hc⟩ : ∃ c, clen l = c := ⟨_, rfl⟩
  have hcl := clen_le l
  rw [hc] at hl hcl
  rw [← hn] at h hlen hcl ⊢
  obtain ⟨k1, k2, -⟩ := h.caps
  have HR := Lib.hid h
  have HN := Lib.hid hn
  have HC := Lib.hid hc
  have HS := Lib.hid (h.cut hc cap (by omega) k2)
  have hc2 : c ≤ cap := by omega
  have q1 : (c : Int) ≤ (cap : Int) := by omega
  have HZ := Lib.hid (show ([] : List Nat).length + (trim l).length ≤ 10000 by rw [trim_len, hc]; simp; omega)
  have HE := Lib.hid (show (trim l).length = c by rw [trim_len, hc])
  clear h hn hc k1
  go_enter Try.func41, Try.ntmps41
  go_wp2_with fail
  go_loop [3] (fun i => ∃ k : Nat, k ≤ n ∧ i = .int .i64 k ∧ Hid (∀ j x, k ≤ j → l[j]? = some x → x = 0)) (fun i => (intOf i).toNat)
  case atStart => exact ⟨n, Nat.le_refl _, rfl, fun j x hj hx => by have := (List.getElem?_eq_some_iff.1 hx).1; have := HN.out; omega⟩
  case round =>
    obtain ⟨k, hk, rfl, HP⟩ := hrel
    have DONE : ∀ k', k' ≤ n → (∀ j x, k' ≤ j → l[j]? = some x → x = 0) → (k' = 0 ∨ ∃ x, l[k' - 1]? = some x ∧ x ≠ 0) → k' = c := fun k' h1 h2 h3 => by rw [← HC.out, clen_eq l k' (by have := HN.out; omega) h2 h3]
    have DONE := Lib.hid DONE
    cases k with
    | zero =>
      obtain rfl : 0 = c := DONE.out 0 (Nat.zero_le _) HP.out (.inl rfl)
      go_wp2_with (at_builtin; refine wpList_more elt29 _ _ rfl rfl rfl rfl (Ow.start 76 _) HS.out HZ.out ?_; intro p cp w2 HO HG)
      go_ret
      have hO := HO.out
      simp only [List.nil_append, List.length_nil, Nat.zero_add] at hO
      exact ⟨_, _, by simp only [List.length_nil, Nat.zero_add]; rfl, Ru.of_ow hO (by rw [HE.out]; omega), hO.below⟩
    | succ k =>
      obtain ⟨x, hx⟩ : ∃ x, l[k]? = some x := ⟨l[k]'(by have := HN.out; omega), by simp⟩
      obtain ⟨b, off, rfl, hb, hcell⟩ := HR.out.limb hx
      have HX := Lib.hid hx
      clear hx
      by_cases h0 : x = 0
      · have q : ((x : Int) == 0) = true := by simp [h0]
        go_wp2_with fail
        go_round
        case rel =>
          refine ⟨k, by omega, by go_num, fun j y hj hy => ?_⟩
          by_cases e : k + 1 ≤ j
          · exact HP.out j y e hy
          · obtain rfl : j = k := by omega
            have := HX.out
            rw [hy] at this
            cases this
            exact h0
        case measure => simp [intOf]
      · have q : ((x : Int) == 0) = false := by simpa using h0
        obtain rfl : k + 1 = c := DONE.out (k + 1) hk HP.out (.inr ⟨x, by simpa using HX.out, h0⟩)
        go_wp2_with (at_builtin; refine wpList_more elt29 _ _ rfl rfl rfl rfl (Ow.start 76 _) HS.out HZ.out ?_; intro p cp w2 HO HG)
        go_ret
        have hO := HO.out
        simp only [List.nil_append, List.length_nil, Nat.zero_add] at hO
        exact ⟨_, _, by simp only [List.length_nil, Nat.zero_add]; rfl, Ru.of_ow hO (by rw [HE.out]; omega), hO.below⟩

theorem rlarge_as {w : World} {v : Value} {l : List Nat} (h : Rd eU w v l) (hl : clen l ≤ 512) : Calls Try.prog 63 #[v] w fun e w' => e = .returned (.bool false) ∧ Below w.heap.size w w' := by
  have HR := Lib.hid h
  have HK := Lib.hid (show clen l ≤ 5000 by omega)
  obtain ⟨c, hc⟩ : ∃ c, (trim l).length = c := ⟨_, rfl⟩
  have HC := Lib.hid hc
  rw [trim_len] at hc
  have q : decide ((512 : Int) < (c : Int)) = false := by simp; omega
  clear h hc
  go_enter Try.func63, Try.ntmps63
  go_wp2_with (go_at_call 41; (with_reducible refine (rtrim_any HR.out HK.out).mono ?_); rintro e w1 ⟨p, cp, rfl, ht, hb⟩; rw [HC.out]; have HB := Lib.hid hb; clear ht hb)
  go_ret
  exact ⟨rfl, HB.out⟩

/-- x < 2^32 as a number -/
theorem rmake_as {w : World} {v : Nat} (hv : v < 4294967296) : Calls Try.prog 27 #[.int .u64 v] w (SlPost w (limb v)) := by
  have HR := Lib.hid (two_limbs w v 0)
  have HK := Lib.hid (show clen [v, 0] ≤ 5000 by simp [clen]; split <;> omega)
  have h1 : (v : Int) / 4294967296 = 0 := by omega
  have h2 : (v : Int) % 4294967296 = v := by omega
  have HT := Lib.hid (show trim [v, 0] = limb v by unfold trim limb; by_cases h : v = 0 <;> simp [clen, h])
  have HH : Hid (Rd eU (w.alloc (.cells #[.int .u32 (v : Int), .int .u32 0] 76)) (.slice (some ⟨w.heap.size, 0, none⟩) 2 2) [v, 0]) := HR
  clear HR
  go_enter Try.func27, Try.ntmps27
  go_wp2_with (go_at_call 41; (with_reducible refine (rtrim_any HH.out HK.out).mono ?_); rintro e w1 ⟨p, cp, rfl, ht, hb⟩; rw [HT.out] at ht ⊢; have HU := Lib.hid ht; have HB := Lib.hid hb; clear ht hb)
  go_ret
  exact ⟨_, _, rfl, HU.out, (below_alloc _ _).trans (HB.out.mono (by simp))⟩
end Go.Proofs.Ytgnmolleaengaaa
