/- The reference's methods at an empty list. -/
import Derived.Test.YtnhpjmjinchamaaNc
import Derived.Test.YtnhpjmjinchamaaRd
set_option linter.unusedVariables false
set_option linter.unusedSimpArgs false
set_option linter.unnecessarySimpa false
namespace Go.Proofs.Ytnhpjmjinchamaa
open Go Go.RowKit Go.MapKept Go.ChangeMaps

set_option maxRecDepth 20000 in
theorem of_no {w : World} {B rb : Nat} {R : Rf} (h : RfAt w B rb R) (he : R.L = []) (v f : Int) (m : Bool) : Calls Try.prog 46 #[.pointer (some ⟨rb, 0, none⟩), .int .i64 v, .int .i64 f, .bool m] w fun e w' => e = .returned (.tuple #[lv noL, .bool false]) ∧ Below w.heap.size w w' := by
  have HR := Lib.hid (h.below (below_alloc w (.cells (lc noL) 46)))
  have HN := Lib.hid (show findN (isF v f m) R.L = -1 by rw [he]; rfl)
  clear h he
  go_enter Try.func46, Try.ntmps46
  go_wp2_with (go_at_call 52; (with_reducible refine (find_as HR.out HN.out).mono ?_); rintro e w1 ⟨rfl, rfl⟩)
  exact bodyPost_ret (v := .tuple #[lv noL, .bool false]) (by simp [results, Try.results46, go_sem]) rfl ⟨rfl, by first | exact (below_alloc _ _) | (simp; exact below_alloc _ _)⟩

theorem same_no (a a' : Option Addr) (c c' : Nat) (w : World) : Calls Try.prog 34 #[.slice a 0 c, .slice a' 0 c'] w fun e w' => e = .returned (.bool true) ∧ Below w.heap.size w w' := by
  go_enter Try.func34, Try.ntmps34
  go_wp2_with fail
  go_loopw [5] (fun e wr => e = .int .i64 0 ∧ Below w.heap.size w wr) (fun _ _ => 0)
  case atStart => exact ⟨rfl, Below.refl _ _⟩
  case round =>
    rename World => wr
    obtain ⟨rfl, hb⟩ := hrel
    have HB := Lib.hid hb
    clear hb
    go_wp2_with fail
    go_ret
    exact ⟨rfl, HB.out⟩
end Go.Proofs.Ytnhpjmjinchamaa
