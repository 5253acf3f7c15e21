/- The walk of the law FieldCombine. -/
import Derived.Test.YtojfeldafbabeaaC3
set_option linter.unusedVariables false
set_option linter.unusedSimpArgs false
set_option linter.unnecessarySimpa false
namespace Go.Proofs.Ytojfeldafbabeaa
open Go.RowKit Go.Mem

theorem combine_fail (c : List Nat) (rows : List (List Nat)) (vc vr : Value) (w : World) (hc : Bytes w vc c) (hr : Mat w vr rows) (hf : ¬ GF.Fit c rows) (hl : (rows.getD 0 []).length ≤ 2000) :
    Calls Try.prog 41 #[vc, vr] w (Gave 1 (fun _ v => v = .slice none 0 0) w) := by
  rcases GF.not_fit hf with h | ⟨h1, h2, p, hp, hp0, hn, hbad⟩
  · exact combine_arg c rows vc vr w hc hr h
  · exact combine_bad c rows _ p vc vr w hc hr h1 h2 hp hp0 hn hbad hl
theorem refCombine_fail (c : List Nat) (rows : List (List Nat)) (vc vr : Value) (w : World) (hc : Bytes w vc c) (hr : Mat w vr rows) (hf : ¬ GF.Fit c rows) :
    Calls Try.prog 34 #[vc, vr] w (Gave 1 (fun _ v => v = .slice none 0 0) w) := by
  rcases GF.not_fit hf with h | ⟨h1, h2, p, hp, hp0, hn, hbad⟩
  · exact refCombine_arg c rows vc vr w hc hr h
  · exact refCombine_bad c rows _ p vc vr w hc hr h1 h2 hp hp0 hn hbad
theorem combine_fit (c : List Nat) (rows : List (List Nat)) (vc vr : Value) (w : World) (hc : Bytes w vc c) (hr : Mat w vr rows) (hf : GF.Fit c rows) (hl : (rows.getD 0 []).length ≤ 2000) :
    Calls Try.prog 41 #[vc, vr] w (Gave 0 (fun w' v => Bytes w' v (GF.comb c rows) ∧ FreshAt w w' v) w) :=
  combine_ok c rows _ vc vr w hc hr hf.1 hf.2.1 hf.2.2 hl
theorem refCombine_fit (c : List Nat) (rows : List (List Nat)) (vc vr : Value) (w : World) (hc : Bytes w vc c) (hr : Mat w vr rows) (hf : GF.Fit c rows) (hl : (rows.getD 0 []).length ≤ 2000) :
    Calls Try.prog 34 #[vc, vr] w (Gave 0 (fun w' v => Bytes w' v (GF.comb c rows) ∧ FreshAt w w' v) w) :=
  refCombine_ok c rows _ vc vr w hc hr hf.1 hf.2.1 hf.2.2 hl

def Yes (w : World) (e : Ending) (w' : World) : Prop := e = .returned (.bool true) ∧ Below w.heap.size w w'

theorem conv_nil (w : World) : (convert 31 9 (.slice none 0 0)).run Try.prog w = .ok (.string ByteArray.empty) w := run_convert_bytes_nil (P := Try.prog) w 31 5 Try.underlying31 Try.underlying5 0 0 9 Try.underlying9

end Go.Proofs.Ytojfeldafbabeaa
