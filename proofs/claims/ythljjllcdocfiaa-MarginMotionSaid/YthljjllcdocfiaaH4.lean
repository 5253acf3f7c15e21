/- One copy (a struct of three numbers) from the form. -/
import Derived.Test.YthljjllcdocfiaaH1
set_option linter.unusedVariables false
set_option linter.unusedSimpArgs false
set_option linter.unnecessarySimpa false
namespace Go.Proofs.Ythljjllcdocfiaa
open Go Go.ChangeShapes Go.WideShapes Go.ChangeAt Go.RowKit Go.Deep Go.Joins

theorem open_cp {H : Type} {enc : TypeId × Value → H} {w : World} {base : Nat} {held : Bool} {v : Value} {d : DataW H} {ps : List MemPlace} (hv : ∃ cs, v = .agg cs ∧ cs.size = Try.prog.cellsOf 44) (h : DataW.Trod enc Try.prog w base (fun _ => true) held 44 v d ps) :
    ∃ x : Cp, v = .agg #[.int .i64 x.1, .int .i64 x.2.1, .int .i64 x.2.2] ∧ InC x := by
  obtain ⟨fuel, hf0⟩ := h
  obtain ⟨⟨cs⟩, rfl, hsz⟩ := hv
  have c44 : Try.prog.cellsOf 44 = 3 := by kernel_rfl
  rw [c44] at hsz
  simp at hsz
  obtain ⟨x, e, hx⟩ := three44 (by simpa [Value.cells] using hsz) hf0
  simp [Value.cells, eC] at e
  subst e
  exact ⟨x, rfl, hx⟩
end Go.Proofs.Ythljjllcdocfiaa
