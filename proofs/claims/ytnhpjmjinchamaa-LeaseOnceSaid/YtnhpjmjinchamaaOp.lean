/- A slice of calls from the form. -/
import Derived.Test.YtnhpjmjinchamaaSq
set_option linter.unusedVariables false
set_option linter.unusedSimpArgs false
set_option linter.unnecessarySimpa false
namespace Go.Proofs.Ytnhpjmjinchamaa
open Go Go.ChangeShapes Go.WideShapes Go.ChangeAt Go.RowKit Go.Deep Go.Joins

theorem of_five {α : Type} {l : List α} (h : l.length = 5) : ∃ a b c d e, l = [a, b, c, d, e] := by
  match l, h with
  | [a, b, c, d, e], _ => exact ⟨a, b, c, d, e, rfl⟩
theorem five42 {H : Type} {enc : TypeId × Value → H} {w : World} {base : Nat} {held : Bool} {fuel : Nat} {cs : List Value} {y : DataW H × List MemPlace} (hl : cs.length = 5) (h : DataW.trod enc Try.prog w base (fun _ => true) held fuel 42 cs = some y) :
    ∃ n0 n1 n2 n3 n4 : Int, cs = [.int .i64 n0, .int .i64 n1, .int .i64 n2, .int .i64 n3, .int .i64 n4] ∧ In64 n0 ∧ In64 n1 ∧ In64 n2 ∧ In64 n3 ∧ In64 n4 := by
  obtain ⟨xs, n, _, rfl, _, hlen, hf⟩ := DataW.trod_struct Try.underlying42 h
  have c3 : Try.prog.cellsOf 3 = 1 := by kernel_rfl
  obtain ⟨a0, a1, a2, a3, a4, rfl⟩ := of_five hl
  obtain ⟨y0, y1, y2, y3, y4, rfl⟩ := of_five (hlen.trans rfl)
  · have h0 := hf 0 _ rfl
    have h1 := hf 1 _ rfl
    have h2 := hf 2 _ rfl
    have h3 := hf 3 _ rfl
    have h4 := hf 4 _ rfl
    simp [c3] at h0 h1 h2 h3 h4
    obtain ⟨n0, rfl, w0⟩ := one_int Try.underlying3 h0
    obtain ⟨n1, rfl, w1⟩ := one_int Try.underlying3 h1
    obtain ⟨n2, rfl, w2⟩ := one_int Try.underlying3 h2
    obtain ⟨n3, rfl, w3⟩ := one_int Try.underlying3 h3
    obtain ⟨n4, rfl, w4⟩ := one_int Try.underlying3 h4
    exact ⟨n0, n1, n2, n3, n4, rfl, w0, w1, w2, w3, w4⟩

theorem open_ops {H : Type} {enc : TypeId × Value → H} {w : World} {base : Nat} {held : Bool} {a : Option Addr} {len cap : Nat} {d : DataW H} {ps : List MemPlace} (h : DataW.Trod enc Try.prog w base (fun _ => true) held 33 (.slice a len cap) d ps) :
    ∃ f : Nat → Int × Int × Int × Int × Int, Seq w (.slice a len cap) 5 len (fun i => [.int .i64 (f i).1, .int .i64 (f i).2.1, .int .i64 (f i).2.2.1, .int .i64 (f i).2.2.2.1, .int .i64 (f i).2.2.2.2]) ∧ ∀ i, In64 (f i).1 ∧ In64 (f i).2.1 ∧ In64 (f i).2.2.1 ∧ In64 (f i).2.2.2.1 ∧ In64 (f i).2.2.2.2 :=
  open_five Try.underlying33 (by kernel_rfl) (fun hl h => five42 hl h) h
end Go.Proofs.Ytnhpjmjinchamaa
