/- A drawn region without a tail: a determined prefix in any order, two special operations side by side, single steps, the determined rest. -/
import Derived.Test.YtgnmolleaengaaaLw
set_option linter.unusedVariables false
set_option linter.unusedSimpArgs false
set_option linter.unnecessarySimpa false
namespace Go.Proofs.Ytgnmolleaengaaa
open Go Go.RowKit

section
variable {P : Program} {ops : Array Oper} {md : Region.Mode} {S : World → Prop}

theorem lAny_step {Q : Act → World → Prop} {T : World → Prop} {fuel : Nat} {listed : Array Bool} {a : Act} (rs : List Nat) (hr : Region.ready md ops listed = rs) (hne : rs ≠ [])
    (h : ∀ i ∈ rs, lOp P ops S T i (lAny P md ops S Q fuel (listed.setIfInBounds i true)) a) : lAny P md ops S Q (fuel + 1) listed T a :=
  ⟨fun h0 => absurd (hr.symm.trans h0) hne, fun i hi => h i (by rw [← hr]; exact hi)⟩
theorem lAny_end {Q : Act → World → Prop} {T : World → Prop} {listed : Array Bool} {a : Act} (hr : Region.ready md ops listed = []) (h : ∀ w, T w → Q a w) : lAny P md ops S Q 0 listed T a := ⟨hr, h⟩

def preA (md : Region.Mode) (ops : Array Oper) : List Nat → Array Bool → Bool
  | [], _ => true
  | i :: is, listed => (Region.ready md ops listed).contains i && Region.free md ops listed i && preA md ops is (listed.setIfInBounds i true)

theorem lAny_pick {Q : Act → World → Prop} {T : World → Prop} (g : Nat) (hsel : Region.noSelect ops = true) : ∀ (is : List Nat) (listed : Array Bool) (a : Act), preA md ops is listed = true →
    pRow P ops S (fun a => lAny P md ops S Q g (setMany listed is) T a) is a → lAny P md ops S Q (is.length + g) listed T a
  | [], listed, a, _, h => by simpa [pRow, setMany] using h
  | i :: is, listed, a, hB, ⟨o, h0, v, hy, h⟩ => by
    simp only [preA, Bool.and_eq_true] at hB
    obtain ⟨⟨hr, hf⟩, hB'⟩ := hB
    have hr' : i ∈ Region.ready md ops listed := by simpa using hr
    have IH := lAny_pick (T := T) g hsel is _ _ hB' h
    have := lAny_first h0 (Region.noSelect_spec hsel) (is.length + g) listed T a (Region.free_spec h0 hf) hr' hy IH
    rw [show (i :: is).length + g = is.length + g + 1 by simp; omega]
    exact this

theorem wp_region_pick {id : Nat} {Q : Exit → Act → World → Prop} {a : Act} {w : World} {l : List Oper} (S T : World → Prop) (is : List Nat) (g : Nat) (hm : P.follows .mixedOrders = true) (hsel : Region.noSelect l.toArray = true) (hng : is.length + g = l.length)
    (hB : preA .any l.toArray is (Array.replicate l.toArray.size false) = true) (hSt : Stable T) (hTS : ∀ w, T w → S w) (hS : T w)
    (h : pRow P l.toArray S (fun a' => lAny P .any l.toArray S (fun a w => Q .normal a w) g (setMany (Array.replicate l.toArray.size false) is) T a') is a) : (Code.region id l.toArray true).wp P Q a w := by
  have H := lAny_pick (md := .any) (Q := fun a w => Q .normal a w) (T := T) g hsel is (Array.replicate l.toArray.size false) a hB h
  refine wp_region_any hm ?_
  have hS1 : T { w with drawn := w.drawn + 1 } := hSt _ _ hS (Below.refl _ _).drew
  have := wpAny_of_lAny (Q' := Q) (fun _ _ h => h) _ _ _ _ _ hSt hTS hS1 H
  rw [hng, show l.length = l.toArray.size by simp] at this
  exact this

/-- the determined rest -/
theorem lAny_rest {Q : Act → World → Prop} {T : World → Prop} (is : List Nat) (hsel : Region.noSelect ops = true) {listed : Array Bool} {a : Act} (hB : preA md ops is listed = true) (h0 : Region.ready md ops (setMany listed is) = [])
    (h : pRow P ops S (fun a => ∀ w, T w → Q a w) is a) : lAny P md ops S Q is.length listed T a := by
  have key : ∀ (is : List Nat) (a : Act), pRow P ops S (fun a => ∀ w, T w → Q a w) is a → ∀ l0, Region.ready md ops l0 = [] → pRow P ops S (fun a => lAny P md ops S Q 0 l0 T a) is a := by
    intro is
    induction is with
    | nil => intro a h l0 hl; exact ⟨hl, h⟩
    | cons i is ih => rintro a ⟨o, h1, v, hy, h⟩ l0 hl; exact ⟨o, h1, v, hy, ih _ h l0 hl⟩
  exact lAny_pick 0 hsel is listed a hB (key is a h _ h0)

def twoA (md : Region.Mode) (ops : Array Oper) (listed : Array Bool) (i j : Nat) : Bool :=
  decide (Region.ready md ops listed = [i, j]) && decide (Region.ready md ops (listed.setIfInBounds i true) = [j]) && decide (Region.ready md ops (listed.setIfInBounds j true) = [i]) && decide (i ≠ j) &&
  match ops[i]?, ops[j]? with
  | some x, some y => x.apart ops y
  | _, _ => false

theorem lAny_two {f : Nat} {Q : Act → World → Prop} {T : World → Prop} {listed : Array Bool} {a : Act} (i j : Nat) {x y : Oper} (hi : ops[i]? = some x) (hj : ops[j]? = some y) (hB : twoA md ops listed i j = true)
    (gi : x.guard = none) (gj : y.guard = none) (V1 V2 : Value → World → Prop) (V : Value → Value → World → Prop) (k1 : ∀ u, Stable (V1 u)) (k2 : ∀ u, Stable (V2 u)) (k3 : ∀ u u', Stable (V u u'))
    (b1 : ∀ u w, V1 u w → S w) (b2 : ∀ u w, V2 u w → S w) (b3 : ∀ u u' w, V u u' w → S w)
    (r1 : ∀ w, T w → sUpon P V1 ((execOp a.eval x).run P w)) (r2 : ∀ w, T w → sUpon P V2 ((execOp a.eval y).run P w))
    (r12 : ∀ u w, V1 u w → sUpon P (fun u' w' => V u u' w') ((execOp (a.put x.dst u).eval y).run P w)) (r21 : ∀ u' w, V2 u' w → sUpon P (fun u w' => V u u' w') ((execOp (a.put y.dst u').eval x).run P w))
    (h : ∀ u u', (∃ w, V u u' w) → ∀ K : Act → Prop, (∀ a, lAny P md ops S Q f ((listed.setIfInBounds i true).setIfInBounds j true) (V u u') a → K a) → K ((a.put x.dst u).put y.dst u')) :
    lAny P md ops S Q (f + 2) listed T a := by
  simp only [twoA, Bool.and_eq_true, decide_eq_true_eq, hi, hj] at hB
  obtain ⟨⟨⟨⟨q1, q2⟩, q3⟩, q6⟩, q7⟩ := hB
  obtain ⟨-, h2, -⟩ := Oper.apart_spec q7
  refine lAny_step [i, j] q1 (by simp) fun k hk => ?_
  have hk' : k = i ∨ k = j := by simpa using hk
  rcases hk' with rfl | rfl
  · refine lOp_special' hi V1 gi k1 b1 r1 fun u hu => ?_
    refine lAny_step [j] q2 (by simp) fun k hk => ?_
    obtain rfl : k = j := by simpa using hk
    exact lOp_special' hj (V u) gj (k3 u) (b3 u) (r12 u) fun u' hu' => h u u' hu' _ (fun _ h => h)
  · refine lOp_special' hj V2 gj k2 b2 r2 fun u' hu' => ?_
    refine lAny_step [i] q3 (by simp) fun k hk => ?_
    obtain rfl : k = i := by simpa using hk
    refine lOp_special' hi (fun u => V u u') gi (fun u => k3 u u') (fun u => b3 u u') (r21 u') fun u hu => ?_
    rw [Array.setIfInBounds_comm _ _ (Ne.symm q6), ← Act.put_comm a u u' h2]
    exact h u u' hu _ (fun _ h => h)
end
end Go.Proofs.Ytgnmolleaengaaa
