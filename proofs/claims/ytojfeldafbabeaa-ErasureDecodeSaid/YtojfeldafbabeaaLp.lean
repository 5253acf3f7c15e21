/- A drawn region whose operations run in several orders: first those that yield one value, in any order that they allow; then step by step. -/
import Derived.Test.YtojfeldafbabeaaLt
set_option linter.unusedVariables false
set_option linter.unusedSimpArgs false
set_option linter.unnecessarySimpa false
namespace Go.Proofs.Ytojfeldafbabeaa
open Go Go.RowKit

section
variable {P : Program} {ops : Array Oper} {md : Region.Mode} {S : World → Prop}

theorem lAny_step {Q : Act → World → Prop} {T : World → Prop} {fuel : Nat} {listed : Array Bool} {a : Act} (rs : List Nat) (hr : Region.ready md ops listed = rs) (hne : rs ≠ [])
    (h : ∀ i ∈ rs, lOp P ops S T i (lAny P md ops S Q fuel (listed.setIfInBounds i true)) a) : lAny P md ops S Q (fuel + 1) listed T a :=
  ⟨fun h0 => absurd (hr.symm.trans h0) hne, fun i hi => h i (by rw [← hr]; exact hi)⟩
theorem lAny_end {Q : Act → World → Prop} {T : World → Prop} {listed : Array Bool} {a : Act} (hr : Region.ready md ops listed = []) (h : ∀ w, T w → Q a w) : lAny P md ops S Q 0 listed T a := ⟨hr, h⟩

def setMany (listed : Array Bool) : List Nat → Array Bool
  | [] => listed
  | i :: is => setMany (listed.setIfInBounds i true) is
def preB (md : Region.Mode) (ops : Array Oper) : List Nat → Array Bool → Bool
  | [], _ => true
  | i :: is, listed => (Region.ready md ops listed).contains i && Region.free md ops listed i && preB md ops is (listed.setIfInBounds i true)
def pRow (P : Program) (ops : Array Oper) (S : World → Prop) (Q : Act → Prop) : List Nat → Act → Prop
  | [], a => Q a
  | i :: is, a => ∃ o, ops[i]? = some o ∧ ∃ v, bYields P ops S o v a ∧ pRow P ops S Q is (a.put o.dst v)

theorem lAny_pick {Q : Act → World → Prop} {T : World → Prop} (g : Nat) (hsel : Region.noSelect ops = true) : ∀ (is : List Nat) (listed : Array Bool) (a : Act), preB md ops is listed = true →
    pRow P ops S (fun a => lAny P md ops S Q g (setMany listed is) T a) is a → lAny P md ops S Q (is.length + g) listed T a
  | [], listed, a, _, h => by simpa [pRow, setMany] using h
  | i :: is, listed, a, hB, ⟨o, h0, v, hy, h⟩ => by
    simp only [preB, Bool.and_eq_true] at hB
    obtain ⟨⟨hr, hf⟩, hB'⟩ := hB
    have hr' : i ∈ Region.ready md ops listed := by simpa using hr
    have IH := lAny_pick (T := T) g hsel is _ _ hB' h
    have := lAny_first h0 (Region.noSelect_spec hsel) (is.length + g) listed T a (Region.free_spec h0 hf) hr' hy IH
    rw [show (i :: is).length + g = is.length + g + 1 by simp; omega]
    exact this

theorem wp_region_pick {id : Nat} {Q : Exit → Act → World → Prop} {a : Act} {w : World} {l : List Oper} (S T : World → Prop) (is : List Nat) (g : Nat) (hm : P.follows .mixedOrders = true) (hsel : Region.noSelect l.toArray = true) (hng : is.length + g = l.length)
    (hB : preB .any l.toArray is (Array.replicate l.toArray.size false) = true) (hSt : Stable T) (hTS : ∀ w, T w → S w) (hS : T w)
    (h : pRow P l.toArray S (fun a' => lAny P .any l.toArray S (fun a w => Q .normal a w) g (setMany (Array.replicate l.toArray.size false) is) T a') is a) : (Code.region id l.toArray true).wp P Q a w := by
  have H := lAny_pick (md := .any) (Q := fun a w => Q .normal a w) (T := T) g hsel is (Array.replicate l.toArray.size false) a hB h
  refine wp_region_any hm ?_
  have hS1 : T { w with drawn := w.drawn + 1 } := hSt _ _ hS (Below.refl _ _).drew
  have := wpAny_of_lAny (Q' := Q) (fun _ _ h => h) _ _ _ _ _ hSt hTS hS1 H
  rw [hng, show l.length = l.toArray.size by simp] at this
  exact this

theorem pRow_nil {Q : Act → Prop} {a : Act} (h : Q a) : pRow P ops S Q [] a := h
theorem pRow_plain {Q : Act → Prop} {a : Act} {i : Nat} {o : Oper} {is : List Nat} (v : Value) (hi : ops[i]? = some o) (hg : o.guard = none)
    (hv : ∀ w, S w → bUpon P v w ((execOp a.eval o).run P w)) (hk : ∀ K : Act → Prop, (∀ a, pRow P ops S Q is a → K a) → K (a.put o.dst v)) : pRow P ops S Q (i :: is) a :=
  ⟨o, hi, v, .inl ⟨by simp [Region.wanted, hg], hv⟩, hk _ (fun _ h => h)⟩

theorem lOp_special' {T : World → Prop} {i : Nat} {o : Oper} {a : Act} {K : (World → Prop) → Act → Prop} (hi : ops[i]? = some o) (V : Value → World → Prop) (hg : o.guard = none) (h1 : ∀ u, Stable (V u)) (h2 : ∀ u w, V u w → S w)
    (hv : ∀ w, T w → sUpon P V ((execOp a.eval o).run P w)) (hk : ∀ u, (∃ w, V u w) → K (V u) (a.put o.dst u)) : lOp P ops S T i K a := by
  unfold lOp
  simp only [hi]
  exact .inr ⟨V, ⟨h1, h2, by simp [Region.wanted, hg], hv⟩, hk⟩
theorem lOp_same {T : World → Prop} {i : Nat} {o : Oper} {a : Act} {K : (World → Prop) → Act → Prop} (v : Value) (hi : ops[i]? = some o) (hg : o.guard = none) (hv : ∀ w, S w → bUpon P v w ((execOp a.eval o).run P w)) (hk : K T (a.put o.dst v)) : lOp P ops S T i K a := by
  unfold lOp
  simp only [hi]
  exact .inl ⟨v, .inl ⟨by simp [Region.wanted, hg], hv⟩, hk⟩
end


end Go.Proofs.Ytojfeldafbabeaa
