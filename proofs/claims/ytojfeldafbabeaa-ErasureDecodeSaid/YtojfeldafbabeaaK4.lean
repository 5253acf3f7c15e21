/- The walk of level. -/
import Derived.Test.YtojfeldafbabeaaK3
set_option linter.unusedVariables false
set_option linter.unusedSimpArgs false
set_option linter.unnecessarySimpa false
namespace Go.Proofs.Ytojfeldafbabeaa
open Go.RowKit Go.Mem

/-- all rows have one length -/
def Level (rows : List (List Nat)) : Prop := ∀ i, i < rows.length → (rows.getD i []).length = (rows.getD 0 []).length
def levelB (rows : List (List Nat)) : Bool := (List.range rows.length).all fun i => decide ((rows.getD i []).length = (rows.getD 0 []).length)
theorem levelB_iff (rows : List (List Nat)) : levelB rows = true ↔ Level rows := by
  unfold levelB Level
  simp
theorem levelB_false {rows : List (List Nat)} {p : Nat} (hp : p < rows.length) (h : (rows.getD p []).length ≠ (rows.getD 0 []).length) : levelB rows = false := by
  cases hb : levelB rows with
  | false => rfl
  | true => exact absurd ((levelB_iff rows).1 hb p hp) h

set_option maxHeartbeats 1000000 in
theorem level_any (rows : List (List Nat)) (vr : Value) (w : World) (hr : Mat w vr rows) :
    Calls Try.prog 31 #[vr] w fun e w' => e = .returned (.bool (levelB rows)) ∧ w = w' := by
  obtain ⟨ra, rcap, rfl, hrl⟩ := hr.open
  obtain ⟨m, hm⟩ : ∃ m, m = rows.length := ⟨_, rfl⟩
  have hml : m ≤ 9223372036854775807 := by omega
  have HM := Lib.hid hm
  have HR := Lib.hid hr
  rw [← hm]
  clear hm hr
  go_enter Try.func31, Try.ntmps31
  go_wp2_with fail
  go_loop [7] (fun i => ∃ k : Nat, k ≤ m ∧ i = .int .i64 k ∧ Hid (∀ i, i < k → (rows.getD i []).length = (rows.getD 0 []).length)) (fun i => m - (intOf i).toNat)
  case atStart => exact ⟨0, by omega, rfl, Lib.hid (fun i hi => by omega)⟩
  case round =>
    obtain ⟨k, hk, rfl, HL⟩ := hrel
    by_cases hkm : k < m
    · obtain ⟨ob, oo, xk, he, hob, hxk, hbk⟩ := (HR.out).cell (i := k) (by have := HM.out; omega)
      obtain ⟨ob0, oo0, x0, he0, hob0, hx0, hb0⟩ := (HR.out).cell (i := 0) (by have := HM.out; omega)
      subst he
      cases he0
      obtain ⟨ka, kcap, rfl, hkl⟩ := hbk.open
      obtain ⟨ka0, kcap0, rfl, hkl0⟩ := hb0.open
      rw [Nat.add_zero] at hx0
      obtain ⟨L, hL⟩ : ∃ L, L = (rows.getD k []).length := ⟨_, rfl⟩
      obtain ⟨L0, hL0⟩ : ∃ L0, L0 = (rows.getD 0 []).length := ⟨_, rfl⟩
      rw [← hL] at hkl hxk
      rw [← hL0] at hkl0 hx0
      have HLL := Lib.hid hL
      have HLL0 := Lib.hid hL0
      have H0 : 0 < m := by omega
      clear hbk hb0 hL hL0
      by_cases hll : L = L0
      · have hne : ((L : Int) != (L0 : Int)) = false := by subst hll; simp
        have HE := Lib.hid hll
        clear hll
        go_wp2_with fail
        go_round
        case rel => exact ⟨k + 1, by omega, by go_num, Lib.hid (fun i hi => by
          by_cases e : i = k
          · subst e; rw [← HLL.out, ← HLL0.out]; exact HE.out
          · exact HL.out i (by omega))⟩
        case measure => simp [intOf]; omega
      · have hne : ((L : Int) != (L0 : Int)) = true := by rw [bne_iff_ne]; omega
        have HE := Lib.hid hll
        clear hll
        go_wp2_with fail
        go_ret
        exact ⟨congrArg (fun b => Ending.returned (.bool b)) (levelB_false (p := k) (by have := HM.out; omega) (by rw [← HLL.out, ← HLL0.out]; exact HE.out)).symm, rfl⟩
    · have HK := Lib.hid (show k = m by omega)
      go_wp2_with fail
      go_ret
      exact ⟨congrArg (fun b => Ending.returned (.bool b)) ((levelB_iff rows).2 (fun i hi => HL.out i (by have := HK.out; have := HM.out; omega))).symm, rfl⟩
end Go.Proofs.Ytojfeldafbabeaa
