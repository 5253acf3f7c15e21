/- One call (a struct of five numbers) from the form. -/
import Derived.Test.YtnhpjmjinchamaaOp
import Derived.Test.YtnhpjmjinchamaaFr
import Derived.WideShapes
set_option linter.unusedVariables false
set_option linter.unusedSimpArgs false
set_option linter.unnecessarySimpa false
namespace Go.Proofs.Ytnhpjmjinchamaa
open Go Go.ChangeShapes Go.WideShapes Go.ChangeAt Go.RowKit Go.Deep Go.Joins

theorem open_call {H : Type} {enc : TypeId × Value → H} {w : World} {base : Nat} {held : Bool} {v : Value} {d : DataW H} {ps : List MemPlace} (hv : ∃ cs, v = .agg cs ∧ cs.size = Try.prog.cellsOf 42) (h : DataW.Trod enc Try.prog w base (fun _ => true) held 42 v d ps) :
    ∃ o : Opc, v = ov o ∧ In64 o.kind ∧ In64 o.vol ∧ In64 o.frag ∧ In64 o.drive ∧ In64 o.ext := by
  obtain ⟨fuel, hf0⟩ := h
  obtain ⟨⟨cs⟩, rfl, hsz⟩ := hv
  have c42 : Try.prog.cellsOf 42 = 5 := by kernel_rfl
  rw [c42] at hsz
  simp at hsz
  obtain ⟨n0, n1, n2, n3, n4, e, w0, w1, w2, w3, w4⟩ := five42 (by simpa [Value.cells] using hsz) hf0
  simp [Value.cells] at e
  subst e
  exact ⟨⟨n0, n1, n2, n3, n4⟩, rfl, w0, w1, w2, w3, w4⟩
end Go.Proofs.Ytnhpjmjinchamaa
