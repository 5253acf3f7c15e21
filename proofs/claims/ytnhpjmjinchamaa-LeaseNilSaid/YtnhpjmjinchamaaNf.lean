/- Free and Judge of the reference at an empty table. -/
import Derived.Test.YtnhpjmjinchamaaNd
import Derived.Test.YtnhpjmjinchamaaNe
import Derived.Test.YtnhpjmjinchamaaFr
set_option linter.unusedVariables false
set_option linter.unusedSimpArgs false
set_option linter.unnecessarySimpa false
namespace Go.Proofs.Ytnhpjmjinchamaa
open Go Go.RowKit Go.MapKept Go.ChangeMaps

theorem rat_no {w : World} {B rb : Nat} {R : Rf} (h : RfAt w B rb R) (he : R.L = []) (d x : Int) : Calls Try.prog 47 #[.pointer (some ⟨rb, 0, none⟩), .int .i64 d, .int .i64 x] w fun e w' => e = .returned (.tuple #[lv noL, .bool false]) ∧ Below w.heap.size w w' :=
  rat_as h (by rw [he]; rfl) (by rw [he]; rfl)

theorem rfree_no {w : World} {B rb : Nat} {R : Rf} (h : RfAt w B rb R) (he : R.L = []) (d n : Int) {r : Int} (hr : frN d n = r) : Calls Try.prog 48 #[.pointer (some ⟨rb, 0, none⟩), .int .i64 d, .int .i64 n] w fun e w' => e = .returned (.int .i64 r) ∧ Below w.heap.size w w' := by
  have hc : (decide (0 < n) = false ∧ r = -1) ∨ (decide (0 < n) = true ∧ decide (0 ≤ d) = false ∧ r = -1) ∨ (decide (0 < n) = true ∧ decide (0 ≤ d) = true ∧ decide (d < 24) = false ∧ r = -1) ∨ (decide (0 < n) = true ∧ decide (0 ≤ d) = true ∧ decide (d < 24) = true ∧ r = 0) := by
    unfold frN extB at hr
    by_cases a : 0 < n <;> by_cases b : 0 ≤ d <;> by_cases c : d < 24 <;> simp [a, b, c] at hr <;> simp [a, b, c, ← hr] <;> omega
  clear hr
  have HR := Lib.hid h
  have HE := Lib.hid he
  clear h he
  rcases hc with ⟨h1, rfl⟩ | ⟨h1, h2, rfl⟩ | ⟨h1, h2, h3, rfl⟩ | ⟨h1, h2, h3, rfl⟩
  all_goals
    go_enter Try.func48, Try.ntmps48
    go_wp2_with fail
    refine wp_loop_rounds 1 ?_
    rw [rounds_succ]
    go_wp2_with (go_at_call 47; (with_reducible refine (rat_no HR.out HE.out _ _).mono ?_); rintro e w3 ⟨rfl, hb⟩; have HB2 := Lib.hid hb; clear hb)
    go_ret
    first
      | exact ⟨rfl, HB2.out.alloc HB2.out.size _⟩
      | exact ⟨rfl, Below.refl _ _⟩

set_option maxRecDepth 20000 in
theorem rjudge_no {w : World} {B rb : Nat} (h : RfAt w B rb noR) (v f d n : Int) : Calls Try.prog 49 #[.pointer (some ⟨rb, 0, none⟩), .int .i64 v, .int .i64 f, .int .i64 d, .int .i64 n] w fun e w' => e = .returned (.int .i64 4) ∧ Below w.heap.size w w' := by
  obtain ⟨vL, hv, hrow, -⟩ := h.row
  obtain ⟨a, cap, rfl⟩ := rows_val hrow
  have hv' : w.cell? ⟨rb, 96, none⟩ = some (.slice a 0 cap) := hv
  clear hv hrow
  cases hf : fragB v f with
  | false =>
    have HF := Lib.hid hf
    clear hf h
    go_enter Try.func49, Try.ntmps49
    go_wp2_with fail
    refine wp_loop_rounds 1 ?_
    rw [rounds_succ]
    go_wp2_with (go_at_call 50; (with_reducible refine (rfrag_as HF.out _).mono ?_); rintro e w1 ⟨rfl, rfl⟩)
    go_ret
    exact ⟨rfl, Below.refl _ _⟩
  | true =>
    obtain ⟨a1, a2, a3, a4⟩ := frag_of hf
    obtain ⟨vn, rfl⟩ : ∃ m : Nat, v = m := ⟨v.toNat, by omega⟩
    obtain ⟨fn, rfl⟩ : ∃ m : Nat, f = m := ⟨f.toNat, by omega⟩
    have hg : w.cell? ⟨rb, vn * 8 + fn, none⟩ = some (.int .i64 0) := h.giv vn fn (by omega) (by omega)
    have hvn : vn < 12 := by omega
    have hfn : fn < 8 := by omega
    have HF := Lib.hid hf
    clear hf h a1 a2 a3 a4
    by_cases h1 : 1 ≤ n
    · have h2 : decide (n ≤ 0) = false := by simp; omega
      have h3 : decide (1 ≤ n) = true := by simp; omega
      clear h1
      go_enter Try.func49, Try.ntmps49
      go_wp2_with fail
      refine wp_loop_rounds 1 ?_
      rw [rounds_succ]
      go_wp2_with (go_at_call 50; (with_reducible refine (rfrag_as HF.out _).mono ?_); rintro e w1 ⟨rfl, rfl⟩)
      go_ret
      exact ⟨rfl, Below.refl _ _⟩
    · have h3 : decide (1 ≤ n) = false := by simp; omega
      clear h1
      go_enter Try.func49, Try.ntmps49
      go_wp2_with fail
      refine wp_loop_rounds 1 ?_
      rw [rounds_succ]
      go_wp2_with (go_at_call 50; (with_reducible refine (rfrag_as HF.out _).mono ?_); rintro e w1 ⟨rfl, rfl⟩)
      go_ret
      exact ⟨rfl, Below.refl _ _⟩
end Go.Proofs.Ytnhpjmjinchamaa
