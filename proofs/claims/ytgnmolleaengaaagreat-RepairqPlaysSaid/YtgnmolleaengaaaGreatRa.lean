/- Keys in slices; the walk of SameKeys at equal lists; the closure of sorted. -/
import Derived.Test.YtgnmolleaengaaaGreatQb
set_option linter.unusedVariables false
set_option linter.unusedSimpArgs false
set_option linter.unnecessarySimpa false
namespace Go.Proofs.YtgnmolleaengaaaGreat
open Go Go.RowKit

def eK : Enc Ky := ⟨2, fun k => [.int .i64 k.1, .int .i64 k.2], fun _ => rfl, by decide, fun x v hv => by simp at hv; rcases hv with rfl | rfl <;> rfl⟩
theorem Rd.key {w : World} {a : Option Addr} {n cap : Nat} {L : List Ky} (h : Rd eK w (.slice a n cap) L) {i : Nat} {k : Ky} (hi : L[i]? = some k) :
    ∃ b off, a = some ⟨b, off, none⟩ ∧ b < w.heap.size ∧ w.cell? ⟨b, off + i * 2, none⟩ = some (.int .i64 k.1) ∧ w.cell? ⟨b, off + i * 2 + 1, none⟩ = some (.int .i64 k.2) := by
  obtain ⟨b, off, e, hb, hc⟩ := h.cell hi
  exact ⟨b, off, e, hb, hc 0 _ rfl, hc 1 _ rfl⟩
theorem neq_kv (k : Ky) (w : World) : (binOp .neq 33 (kv k) (kv k)).run Tryz.prog w = .ok (.bool false) w := by
  simp only [binOp]
  simp [eq_kv]

set_option maxRecDepth 20000 in
set_option maxHeartbeats 2000000 in
theorem samekeys_as (v u : Value) (L : List Ky) (w : World) (h : Rd eK w v L) (h2 : Rd eK w u L) : Calls Tryz.prog 26 #[v, u] w fun e w' => e = .returned (.bool true) ∧ Below w.heap.size w w' := by
  obtain ⟨a, cap, rfl, hlen⟩ := h.open
  obtain ⟨a2, cap2, rfl, -⟩ := h2.open
  obtain ⟨n, hn⟩ : ∃ n, L.length = n := ⟨_, rfl⟩
  have HN := Lib.hid hn
  rw [hn] at hlen h h2 ⊢
  have H := Lib.hid h
  have H2 := Lib.hid h2
  clear h h2 hn
  go_enter Tryz.func26, Tryz.ntmps26
  go_wp2_with fail
  go_loopw [5] (fun s wr => ∃ k q : Nat, k ≤ n ∧ s = .int .i64 k ∧ wr = w.drewN q) (fun s _ => n - (intOf s).toNat)
  case atStart => exact ⟨0, 0, by omega, rfl, rfl⟩
  case round =>
    obtain ⟨k, q, hk, rfl, rfl⟩ := hrel
    by_cases hkn : k < n
    · obtain ⟨x, hx⟩ : ∃ l, L[k]? = some l := ⟨L[k]'(by have := HN.out; omega), by simp⟩
      obtain ⟨b, off, rfl, hb, a0, a1⟩ := H.out.key hx
      obtain ⟨b2, off2, rfl, hb2, b0, b1⟩ := H2.out.key hx
      have hne := neq_kv x
      obtain ⟨x1, x2⟩ := x
      clear hx hb hb2
      go_wp2_with fail
      go_quiet (fail)
      go_wp2_with fail
      go_roundw
      case rel => exact ⟨k + 1, q + nq, by omega, by go_num, rfl⟩
      case measure => simp [intOf]; omega
    · go_wp2_with fail
      go_ret
      exact ⟨rfl, below_drewN (Below.refl _ _) _⟩

def ltK (a b : Ky) : Bool := if a.1 ≠ b.1 then decide (a.1 < b.1) else decide (a.2 < b.2)

set_option maxRecDepth 20000 in
set_option maxHeartbeats 2000000 in
theorem less_closure {W : World} {b g off n c i k : Nat} {x y : Ky} (hb : W.cell? ⟨b, 0, none⟩ = some (.slice (some ⟨g, off, none⟩) n c)) (hi : i < n) (hk : k < n) (hn : n ≤ 1000000)
    (x0 : W.cell? ⟨g, off + i * 2, none⟩ = some (.int .i64 x.1)) (x1 : W.cell? ⟨g, off + i * 2 + 1, none⟩ = some (.int .i64 x.2)) (y0 : W.cell? ⟨g, off + k * 2, none⟩ = some (.int .i64 y.1)) (y1 : W.cell? ⟨g, off + k * 2 + 1, none⟩ = some (.int .i64 y.2)) :
    Calls Tryz.prog 66 #[.int .i64 i, .int .i64 k, .pointer (some ⟨b, 0, none⟩)] W fun e w' => e = .returned (.bool (ltK x y)) ∧ ∃ q, w' = W.drewN q := by
  obtain ⟨a1, a2⟩ := x
  obtain ⟨b1, b2⟩ := y
  have hi2 : (i : Int) < (n : Int) := by omega
  have hk2 : (k : Int) < (n : Int) := by omega
  simp only at x0 x1 y0 y1
  unfold ltK
  by_cases h : a1 = b1
  · subst h
    have q1 : (a1 != a1) = false := by simp
    go_enter Tryz.func66, Tryz.ntmps66
    go_wp2_with fail
    go_quiet (fail)
    go_wp2_with fail
    go_quiet (fail)
    go_wp2_with fail
    go_ret
    exact ⟨by simp, _, rfl⟩
  · have q1 : (a1 != b1) = true := by simpa using h
    go_enter Tryz.func66, Tryz.ntmps66
    go_wp2_with fail
    go_quiet (fail)
    go_wp2_with fail
    go_quiet (fail)
    go_wp2_with fail
    go_ret
    exact ⟨by simp [h], _, rfl⟩
end Go.Proofs.YtgnmolleaengaaaGreat
