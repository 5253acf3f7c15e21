/- The walks of natural: Bits, Make at 0 and 1, divide and Gcd at the numbers that a new fraction needs. -/
import Derived.Test.YtgnmolleaengaaaGreatNc
set_option linter.unusedVariables false
set_option linter.unusedSimpArgs false
set_option linter.unnecessarySimpa false
namespace Go.Proofs.YtgnmolleaengaaaGreat
open Go Go.RowKit

def blen (x : Nat) : Nat := if h : x = 0 then 0 else blen (x / 2) + 1
termination_by x
decreasing_by omega
theorem blen_zero : blen 0 = 0 := by unfold blen; simp
theorem blen_pos {x : Nat} (h : x ≠ 0) : blen x = blen (x / 2) + 1 := by
  rw [blen]
  simp [h]
theorem blen_le : ∀ (n x : Nat), x < 2 ^ n → blen x ≤ n
  | 0, x, h => by
    have : x = 0 := by simpa using h
    rw [this, blen_zero]
    omega
  | n + 1, x, h => by
    by_cases h0 : x = 0
    · rw [h0, blen_zero]; omega
    · rw [blen_pos h0]
      have := blen_le n (x / 2) (by rw [Nat.pow_succ] at h; omega)
      omega
def bitsN (l : List Nat) : Nat := if clen l = 0 then 0 else (clen l - 1) * 32 + blen (l.getD (clen l - 1) 0)
theorem bitsN_facts {l : List Nat} (h : Lims l) : (0 < bitsN l ↔ 0 < clen l) ∧ (bitsN l ≤ 4096 ↔ clen l ≤ 128) := by
  unfold bitsN
  by_cases h0 : clen l = 0
  · simp [h0]
  · rw [if_neg h0]
    obtain ⟨x, hx, hx0⟩ := clen_top l h0
    rw [List.getD_eq_getElem?_getD, hx]
    have h1 := blen_pos hx0
    have h2 := blen_le 32 x (h x (List.mem_of_getElem? hx))
    simp only [Option.getD_some]
    omega

theorem bits_any {w : World} {v : Value} {l : List Nat} (h : Rd eU w v l) (hL : Lims l) (hl : clen l ≤ 5000) : Calls Tryz.prog 75 #[v] w fun e w' => e = .returned (.int .i64 (bitsN l)) ∧ w = w' := by
  have HR := Lib.hid h
  obtain ⟨a, cap, rfl, hlen⟩ := h.open
  obtain ⟨c, hc⟩ : ∃ c, clen l = c := ⟨_, rfl⟩
  have hcn := clen_le l
  obtain ⟨n, hn⟩ : ∃ n, l.length = n := ⟨_, rfl⟩
  obtain ⟨r, hr⟩ : ∃ r, bitsN l = r := ⟨_, rfl⟩
  rw [hr]
  have HRR := Lib.hid (show (if c = 0 then 0 else (c - 1) * 32 + blen (l.getD (c - 1) 0)) = r by rw [← hr, ← hc]; rfl)
  rw [hc] at hl hcn
  rw [hn] at h hlen hcn HR ⊢
  have HC := Lib.hid hc
  have HN := Lib.hid hn
  have HLL := Lib.hid hL
  clear h hc hn hr hL
  cases c with
  | zero =>
    go_enter Tryz.func75, Tryz.ntmps75
    go_wp2_with (go_at_call 79; (with_reducible refine (length_as HR.out HC.out).mono ?_); rintro e w1 ⟨rfl, rfl⟩)
    go_ret
    exact ⟨by rw [← HRR.out]; rfl, rfl⟩
  | succ c =>
    obtain ⟨x, hx⟩ : ∃ x, l[c]? = some x := ⟨l[c]'(by have := HN.out; omega), by simp⟩
    obtain ⟨b, off, rfl, hb, hcell⟩ := HR.out.limb hx
    have hx32 : x < 4294967296 := HLL.out x (List.mem_of_getElem? hx)
    have HX := Lib.hid (show c * 32 + blen x = r by
      have := HRR.out
      rw [if_neg (by omega), Nat.add_sub_cancel, List.getD_eq_getElem?_getD, hx] at this
      exact this)
    have hb32 : blen x ≤ 32 := blen_le 32 x hx32
    have hrr : r ≤ 170000 := by have := HX.out; omega
    have q0 : (((c : Int) + 1) == 0) = false := by simp; omega
    have hcn2 : (c : Int) < (n : Int) := by omega
    clear hx hb32
    go_enter Tryz.func75, Tryz.ntmps75
    go_wp2_with (go_at_call 79; (with_reducible refine (length_as HR.out HC.out).mono ?_); rintro e w1 ⟨rfl, rfl⟩)
    go_loop [4, 5] (fun s4 s5 => ∃ (k v : Nat), s4 = .int .i64 k ∧ s5 = .int .u32 v ∧ v < 4294967296 ∧ Hid (k + blen v = r)) (fun _ s5 => (intOf s5).toNat)
    case atStart => exact ⟨c * 32, x, by go_num, rfl, hx32, HX⟩
    case round =>
      obtain ⟨k, y, rfl, rfl, hy, HK⟩ := hrel
      have hk := HK.out
      have hkr : k ≤ 170000 := by omega
      by_cases hy0 : y = 0
      · subst hy0
        clear hk
        go_wp2_with fail
        go_ret
        exact ⟨by rw [← HK.out, blen_zero]; rfl, rfl⟩
      · have q1 : decide ((0 : Int) < (y : Int)) = true := by simp; omega
        rw [blen_pos hy0] at hk
        have HK2 := Lib.hid hk
        clear hk
        go_wp2_with fail
        go_round
        case rel => exact ⟨k + 1, y / 2, by go_num, by rw [show ((y / 2 : Nat) : Int) = (y : Int) / 2 by omega], by omega, Lib.hid (by have := HK2.out; omega)⟩
        case measure => simp [intOf]; omega
theorem bits_as {w : World} {v : Value} {l : List Nat} (h : Rd eU w v l) (hL : Lims l) (hl : clen l ≤ 5000) {r : Nat} (hr : bitsN l = r) : Calls Tryz.prog 75 #[v] w fun e w' => e = .returned (.int .i64 r) ∧ w = w' := hr ▸ bits_any h hL hl
end Go.Proofs.YtgnmolleaengaaaGreat
