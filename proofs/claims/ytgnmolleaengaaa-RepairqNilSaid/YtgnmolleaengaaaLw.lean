/- A drawn region: two special operations that stand ready side by side, in either order. -/
import Derived.Test.YtgnmolleaengaaaLv
set_option linter.unusedVariables false
set_option linter.unusedSimpArgs false
set_option linter.unnecessarySimpa false
namespace Go.Proofs.Ytgnmolleaengaaa
open Go Go.RowKit

section
variable {P : Program} {ops : Array Oper} {md : Region.Mode} {S : World → Prop}

def twoB (md : Region.Mode) (ops : Array Oper) (n : Nat) (listed : Array Bool) (i j : Nat) : Bool :=
  decide (Region.ready md ops listed = [i, j]) && decide (Region.ready md ops (listed.setIfInBounds i true) = [j]) && decide (Region.ready md ops (listed.setIfInBounds j true) = [i]) && decide (i < n) && decide (j < n) && decide (i ≠ j) &&
  match ops[i]?, ops[j]? with
  | some x, some y => x.apart ops y
  | _, _ => false

theorem lAnyL_two {n f : Nat} {L : Array Bool → (World → Prop) → Act → Prop} {T : World → Prop} {listed : Array Bool} {a : Act} (i j : Nat) {x y : Oper} (hi : ops[i]? = some x) (hj : ops[j]? = some y) (hB : twoB md ops n listed i j = true)
    (gi : x.guard = none) (gj : y.guard = none) (V1 V2 : Value → World → Prop) (V : Value → Value → World → Prop) (k1 : ∀ u, Stable (V1 u)) (k2 : ∀ u, Stable (V2 u)) (k3 : ∀ u u', Stable (V u u'))
    (b1 : ∀ u w, V1 u w → S w) (b2 : ∀ u w, V2 u w → S w) (b3 : ∀ u u' w, V u u' w → S w)
    (r1 : ∀ w, T w → sUpon P V1 ((execOp a.eval x).run P w)) (r2 : ∀ w, T w → sUpon P V2 ((execOp a.eval y).run P w))
    (r12 : ∀ u w, V1 u w → sUpon P (fun u' w' => V u u' w') ((execOp (a.put x.dst u).eval y).run P w)) (r21 : ∀ u' w, V2 u' w → sUpon P (fun u w' => V u u' w') ((execOp (a.put y.dst u').eval x).run P w))
    (h : ∀ u u', (∃ w, V u u' w) → ∀ K : Act → Prop, (∀ a, lAnyL P md ops S n L f ((listed.setIfInBounds i true).setIfInBounds j true) (V u u') a → K a) → K ((a.put x.dst u).put y.dst u')) :
    lAnyL P md ops S n L (f + 2) listed T a := by
  simp only [twoB, Bool.and_eq_true, decide_eq_true_eq, hi, hj] at hB
  obtain ⟨⟨⟨⟨⟨⟨q1, q2⟩, q3⟩, q4⟩, q5⟩, q6⟩, q7⟩ := hB
  obtain ⟨-, h2, -⟩ := Oper.apart_spec q7
  refine lAnyL_step [i, j] q1 (by simp) (by simp [q4, q5]) fun k hk => ?_
  have hk' : k = i ∨ k = j := by simpa using hk
  rcases hk' with rfl | rfl
  · refine lOp_special' hi V1 gi k1 b1 r1 fun u hu => ?_
    refine lAnyL_step [j] q2 (by simp) (by simp [q5]) fun k hk => ?_
    obtain rfl : k = j := by simpa using hk
    exact lOp_special' hj (V u) gj (k3 u) (b3 u) (r12 u) fun u' hu' => h u u' hu' _ (fun _ h => h)
  · refine lOp_special' hj V2 gj k2 b2 r2 fun u' hu' => ?_
    refine lAnyL_step [i] q3 (by simp) (by simp [q4]) fun k hk => ?_
    obtain rfl : k = i := by simpa using hk
    refine lOp_special' hi (fun u => V u u') gi (fun u => k3 u u') (fun u => b3 u u') (r21 u') fun u hu => ?_
    rw [Array.setIfInBounds_comm _ _ (Ne.symm q6), ← Act.put_comm a u u' h2]
    exact h u u' hu _ (fun _ h => h)
end
end Go.Proofs.Ytgnmolleaengaaa
