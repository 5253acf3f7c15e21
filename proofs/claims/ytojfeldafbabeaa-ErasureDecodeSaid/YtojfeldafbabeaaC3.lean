/- The walks of the reference's Combine where it refuses, and of long. -/
import Derived.Test.YtojfeldafbabeaaC2
set_option linter.unusedVariables false
set_option linter.unusedSimpArgs false
set_option linter.unnecessarySimpa false
namespace Go.Proofs.Ytojfeldafbabeaa
open Go.RowKit Go.Mem

set_option maxHeartbeats 1000000 in
theorem refCombine_bad (c : List Nat) (rows : List (List Nat)) (n p : Nat) (vc vr : Value) (w : World) (hc : Bytes w vc c) (hr : Mat w vr rows) (h0 : 0 < c.length) (hl : c.length = rows.length)
    (hp : p < rows.length) (hp0 : 0 < p) (hn : ∀ i, i < p → (rows.getD i []).length = n) (hbad : (rows.getD p []).length ≠ n) :
    Calls Try.prog 34 #[vc, vr] w (Gave 1 (fun _ v => v = .slice none 0 0) w) := by
  obtain ⟨ca, ccap, rfl, hcl⟩ := hc.open
  obtain ⟨ra, rcap, rfl, hrl⟩ := hr.open
  obtain ⟨m, hm⟩ : ∃ m, m = rows.length := ⟨_, rfl⟩
  obtain ⟨ob, oo, x0, rfl, hob, hx0, hbx0⟩ := hr.cell (i := 0) (by omega)
  obtain ⟨xa, xcap, rfl, hxl⟩ := hbx0.open
  rw [hn 0 (by omega)] at hx0 hxl
  rw [Nat.add_zero] at hx0
  rw [hl, ← hm]
  have H0 : 0 < m := by omega
  have hpm : p < m := by omega
  have H00 : (0 : Int) < (m : Int) := by omega
  have hmb : m ≤ 9223372036854775807 := by omega
  have hm0 : ((m : Int) == 0) = false := by rw [beq_eq_false_iff_ne]; omega
  have hmm : ((m : Int) != (m : Int)) = false := by simp
  have hnn : ((n : Int) != (n : Int)) = false := by simp
  have HBd := Lib.hid hbad
  have HL := Lib.hid hl
  have HM := Lib.hid hm
  have HN := Lib.hid hn
  have HR := Lib.hid hr
  clear hl hm hn hbx0 hc hr hbad
  go_enter Try.func34, Try.ntmps34
  go_wp2_with fail
  go_loopw [6] (fun i wr => ∃ k : Nat, k ≤ p ∧ i = .int .i64 k ∧ Below w.heap.size w wr) (fun i _ => p - (intOf i).toNat)
  case atStart => exact ⟨0, by omega, rfl, Below.refl _ _⟩
  case round =>
    rename World => w1
    obtain ⟨k, hk, rfl, hbel⟩ := hrel
    have HB := Lib.hid hbel
    clear hbel
    have hx0' := (HB.out.cell (p := ⟨ob, oo, none⟩) hob).trans hx0
    obtain ⟨ob', oo', xk, he, hob', hxk, hbk⟩ := (HR.out).cell (i := k) (by have := HM.out; omega)
    cases he
    obtain ⟨ka, kcap, rfl, hkl⟩ := hbk.open
    clear hbk
    have hkm : k < m := by omega
    by_cases hkp : k < p
    · rw [HN.out k (by omega)] at hxk hkl
      have hxk' := (HB.out.cell (p := ⟨ob, oo + k, none⟩) hob).trans hxk
      clear hxk hx0
      go_wp2_with fail
      go_still (by kernel_rfl)
      go_wp2_with fail
      go_roundw
      case rel => exact ⟨k + 1, by omega, by go_num, HB.out.drew⟩
      case measure => simp [intOf]; omega
    · obtain rfl : k = p := by omega
      obtain ⟨L, hL⟩ : ∃ L, L = (rows.getD k []).length := ⟨_, rfl⟩
      have hbad := HBd.out
      rw [← hL] at hxk hbad hkl
      have hxk' := (HB.out.cell (p := ⟨ob, oo + k, none⟩) hob).trans hxk
      have hne : ((L : Int) != (n : Int)) = true := by rw [bne_iff_ne]; omega
      clear hxk hx0 hL hbad
      go_wp2_with fail
      go_still (by kernel_rfl)
      go_wp2_with fail
      go_ret2
      exact ⟨_, rfl, rfl, HB.out.drew⟩

set_option maxHeartbeats 1000000 in
theorem refCombine_arg (c : List Nat) (rows : List (List Nat)) (vc vr : Value) (w : World) (hc : Bytes w vc c) (hr : Mat w vr rows) (h0 : c.length = 0 ∨ c.length ≠ rows.length) :
    Calls Try.prog 34 #[vc, vr] w (Gave 1 (fun _ v => v = .slice none 0 0) w) := by
  obtain ⟨ca, ccap, rfl, hcl⟩ := hc.open
  obtain ⟨ra, rcap, rfl, hrl⟩ := hr.open
  obtain ⟨m, hm⟩ : ∃ m, m = rows.length := ⟨_, rfl⟩
  obtain ⟨q, hq⟩ : ∃ q, q = c.length := ⟨_, rfl⟩
  rw [← hm] at h0 ⊢
  rw [← hq] at h0 ⊢
  clear hm hq hc hr
  by_cases hz : q = 0
  · have h1 : ((q : Int) == 0) = true := by subst hz; rfl
    have HZ := Lib.hid hz
    clear hz h0
    go_enter Try.func34, Try.ntmps34
    go_wp2_with fail
    go_ret2
    exact ⟨_, rfl, rfl, Below.refl _ _⟩
  · have h1 : ((q : Int) == 0) = false := by rw [beq_eq_false_iff_ne]; omega
    have h2 : ((q : Int) != (m : Int)) = true := by rw [bne_iff_ne]; omega
    have HZ := Lib.hid hz
    have H0 := Lib.hid h0
    clear hz h0
    go_enter Try.func34, Try.ntmps34
    go_wp2_with fail
    go_ret2
    exact ⟨_, rfl, rfl, Below.refl _ _⟩

/-- how many bytes the first k rows hold -/
def sz (rows : List (List Nat)) : Nat → Nat
  | 0 => 0
  | k + 1 => sz rows k + (rows.getD k []).length
def longB (rows : List (List Nat)) : Bool := decide (40 < rows.length) || decide (1200 < sz rows rows.length)

end Go.Proofs.Ytojfeldafbabeaa
