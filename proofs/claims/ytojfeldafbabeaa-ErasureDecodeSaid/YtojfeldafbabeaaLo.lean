/- The walk of long. -/
import Derived.Test.YtojfeldafbabeaaC4
set_option linter.unusedVariables false
set_option linter.unusedSimpArgs false
set_option linter.unnecessarySimpa false
namespace Go.Proofs.Ytojfeldafbabeaa
open Go.RowKit Go.Mem

/-- rows that long lets through -/
def Short (rows : List (List Nat)) : Prop := rows.length ≤ 30 ∧ ∀ i, i < rows.length → (rows.getD i []).length ≤ 2000

def LongPost (rows : List (List Nat)) (w : World) (e : Ending) (w' : World) : Prop := ∃ b, e = .returned (.bool b) ∧ w = w' ∧ (b = false → Short rows)

set_option maxHeartbeats 1000000 in
theorem long_any (rows : List (List Nat)) (vr : Value) (w : World) (hr : Mat w vr rows) :
    Calls Try.prog 11 #[vr] w (LongPost rows w) := by
  obtain ⟨ra, rcap, rfl, hrl⟩ := hr.open
  obtain ⟨m, hm⟩ : ∃ m, m = rows.length := ⟨_, rfl⟩
  rw [← hm] at hr hrl ⊢
  have HM := Lib.hid hm
  have HR := Lib.hid hr
  clear hm hr
  go_enter Try.func11, Try.ntmps11
  go_wp2_with fail
  go_loop [3, 4] (fun s i => ∃ k N : Nat, k ≤ m ∧ i = .int .i64 k ∧ s = .int .i64 N ∧ m ≤ N ∧ N ≤ 150000000000000 ∧ Hid (N ≤ 2000 → ∀ i, i < k → (rows.getD i []).length ≤ 2000)) (fun _ i => m - (intOf i).toNat)
  case atStart => exact ⟨0, m, by omega, rfl, rfl, by omega, by omega, Lib.hid (fun _ i hi => by omega)⟩
  case round =>
    obtain ⟨k, N, hk, rfl, rfl, hmN, hN, HL⟩ := hrel
    have hfin : Hid (¬ (k < m ∧ N ≤ 2000) → decide (2000 < (N : Int)) = false → decide (30 < (m : Int)) = false → Short rows) := Lib.hid fun h h1 h2 => by
      simp at h1 h2
      exact ⟨by have := HM.out; omega, fun i hi => HL.out (by omega) i (by have := HM.out; omega)⟩
    by_cases hkm : k < m
    · by_cases hNN : N ≤ 2000
      · obtain ⟨ob, oo, xk, he, hob, hxk, hbk⟩ := (HR.out).cell (i := k) (by have := HM.out; omega)
        subst he
        obtain ⟨ka, kcap, rfl, hkl⟩ := hbk.open
        obtain ⟨L, hL⟩ : ∃ L, L = (rows.getD k []).length := ⟨_, rfl⟩
        rw [← hL] at hkl hxk
        have HLL := Lib.hid hL
        clear hbk hL
        have hd : decide ((N : Int) ≤ 2000) = true := by simp; omega
        go_wp2_with fail
        go_round
        case rel =>
          by_cases h2 : 2001 < (L : Int)
          · rw [if_pos h2]
            exact ⟨k + 1, N + 2001, by omega, by go_num, by go_num, by omega, by omega, Lib.hid (fun h => by omega)⟩
          · rw [if_neg h2]
            exact ⟨k + 1, N + L, by omega, by go_num, by go_num, by omega, by omega, Lib.hid (fun h i hi => by
              by_cases e : i = k
              · subst e; rw [← HLL.out]; omega
              · exact HL.out (by omega) i (by omega))⟩
        case measure => simp [intOf]; omega
      · have hd : decide ((N : Int) ≤ 2000) = false := by simp; omega
        have hd2 : decide (2000 < (N : Int)) = true := by simp; omega
        go_wp2_with fail
        go_ret
        exact ⟨_, rfl, rfl, by simp⟩
    · obtain rfl : k = m := by omega
      by_cases hNN : N ≤ 2000
      · have hd : decide (2000 < (N : Int)) = false := by simp; omega
        obtain ⟨b, hb⟩ : ∃ b, b = decide (30 < (k : Int)) := ⟨_, rfl⟩
        have HBB := Lib.hid hb
        have hb' := hb.symm
        clear hb
        go_wp2_with fail
        go_ret
        exact ⟨_, rfl, rfl, fun h => hfin.out (by omega) (by simp; omega) (by rw [← HBB.out]; exact h)⟩
      · have hd2 : decide (2000 < (N : Int)) = true := by simp; omega
        go_wp2_with fail
        go_ret
        exact ⟨_, rfl, rfl, by simp⟩
end Go.Proofs.Ytojfeldafbabeaa
