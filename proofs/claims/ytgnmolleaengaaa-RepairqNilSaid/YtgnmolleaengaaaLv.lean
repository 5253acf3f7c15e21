/- A drawn region whose operations run in several orders, with a tail: first those that yield one value, in any order that they allow; then step by step; then the tail in its order. -/
import Derived.Test.YtgnmolleaengaaaLu
set_option linter.unusedVariables false
set_option linter.unusedSimpArgs false
set_option linter.unnecessarySimpa false
namespace Go.Proofs.Ytgnmolleaengaaa
open Go Go.RowKit

section
variable {P : Program} {ops : Array Oper} {md : Region.Mode} {S : World → Prop}

/-- what is owed at the tail's head -/
def TailAt (P : Program) (md : Region.Mode) (ops : Array Oper) (g n : Nat) (Lq : Act → World → Prop) (listed : Array Bool) (T : World → Prop) (a : Act) : Prop := Region.seqB md ops g n listed = true ∧ ∀ w, T w → Lq a w

theorem lAnyL_step {n : Nat} {L : Array Bool → (World → Prop) → Act → Prop} {T : World → Prop} {fuel : Nat} {listed : Array Bool} {a : Act} (rs : List Nat) (hr : Region.ready md ops listed = rs) (hne : rs ≠ []) (hlt : rs.all (· < n) = true)
    (h : ∀ i ∈ rs, lOp P ops S T i (lAnyL P md ops S n L fuel (listed.setIfInBounds i true)) a) : lAnyL P md ops S n L (fuel + 1) listed T a :=
  ⟨fun h0 => absurd (hr.symm.trans h0) hne, fun i hi => by
    rw [hr] at hi
    exact ⟨by simpa using List.all_eq_true.1 hlt i hi, h i hi⟩⟩

def setMany (listed : Array Bool) : List Nat → Array Bool
  | [] => listed
  | i :: is => setMany (listed.setIfInBounds i true) is
def preB (md : Region.Mode) (ops : Array Oper) (n : Nat) : List Nat → Array Bool → Bool
  | [], _ => true
  | i :: is, listed => decide (i < n) && (Region.ready md ops listed).contains i && Region.free md ops listed i && preB md ops n is (listed.setIfInBounds i true)
def pRow (P : Program) (ops : Array Oper) (S : World → Prop) (Q : Act → Prop) : List Nat → Act → Prop
  | [], a => Q a
  | i :: is, a => ∃ o, ops[i]? = some o ∧ ∃ v, bYields P ops S o v a ∧ pRow P ops S Q is (a.put o.dst v)

theorem lAnyL_pick {n : Nat} {L : Array Bool → (World → Prop) → Act → Prop} {T : World → Prop} (g : Nat) (hsel : Region.noSelect ops = true) (hs : Region.sinkB md ops n = true) (hc : Region.chainB md ops n = true) (hn : n < ops.size)
    (hdone : ∀ listed T a, L listed T a → ∀ j ∈ Region.ready md ops listed, n ≤ j) : ∀ (is : List Nat) (listed : Array Bool) (a : Act), HeadInv md ops n listed → preB md ops n is listed = true →
    pRow P ops S (fun a => lAnyL P md ops S n L g (setMany listed is) T a) is a → lAnyL P md ops S n L (is.length + g) listed T a
  | [], listed, a, _, _, h => by simpa [pRow, setMany] using h
  | i :: is, listed, a, inv, hB, ⟨o, h0, v, hy, h⟩ => by
    simp only [preB, Bool.and_eq_true, decide_eq_true_eq] at hB
    obtain ⟨⟨⟨hin, hr⟩, hf⟩, hB'⟩ := hB
    have hr' : i ∈ Region.ready md ops listed := by simpa using hr
    have IH := lAnyL_pick (T := T) g hsel hs hc hn hdone is _ _ (inv.set hr' hin) hB' h
    have := lAnyL_first h0 (Region.noSelect_spec hsel) hs hc hn hin hdone (is.length + g) listed T a inv (Region.free_spec h0 hf) hr' hy IH
    rw [show (i :: is).length + g = is.length + g + 1 by simp; omega]
    exact this

def pickB (ops : Array Oper) (is : List Nat) (g m : Nat) : Bool := Region.noSelect ops && decide (is.length + g = m) && decide (m < ops.size) && Region.sinkB .any ops m && Region.chainB .any ops m && preB .any ops m is (Array.replicate ops.size false)

theorem wp_region_pick_tail {id : Nat} {Q : Exit → Act → World → Prop} {a : Act} {w : World} {l : List Oper} (S T : World → Prop) (is : List Nat) (g m : Nat) (hm : P.follows .mixedOrders = true) (hB : pickB l.toArray is g m = true)
    (hSt : Stable T) (hTS : ∀ w, T w → S w) (hS : T w)
    (h : pRow P l.toArray S (fun a' => lAnyL P .any l.toArray S m (TailAt P .any l.toArray (l.toArray.size - m) m (fun a w => wpList P l.toArray Q (l.drop m) a w)) g (setMany (Array.replicate l.toArray.size false) is) T a') is a) : (Code.region id l.toArray true).wp P Q a w := by
  simp only [pickB, Bool.and_eq_true, decide_eq_true_eq] at hB
  obtain ⟨⟨⟨⟨⟨hsel, hng⟩, hml⟩, hs⟩, hc⟩, hpre⟩ := hB
  have hm' : m < l.length := by simpa using hml
  have hdl : (l.drop m).length = l.toArray.size - m := by simp
  have inv0 : HeadInv .any l.toArray m (Array.replicate l.toArray.size false) :=
    ⟨by simp, fun j oj _ hl => (by rw [getD_replicate_false] at hl; cases hl), fun t _ ht => getD_in (by simpa using ht) (getD_replicate_false _ _)⟩
  have H := lAnyL_pick (md := .any) (T := T) g hsel hs hc hml (fun listed' T' a' hL => seqB_ready hL.1) is _ a inv0 hpre h
  refine wp_region_any hm ?_
  have hS1 : T { w with drawn := w.drawn + 1 } := hSt _ _ hS (Below.refl _ _).drew
  have := wpAny_of_lHead (Q' := Q) (g := l.toArray.size - m) (fun listed' T' a' w' hw' hL => by
    have := wpAny_of_seq (md := .any) (Q' := Q) (l.drop m) m listed' a' w' (fun j => by simp [List.getElem?_drop]) (by rw [hdl]; exact hL.1) (hL.2 w' hw')
    rwa [hdl] at this) _ _ _ _ _ hSt hTS hS1 H
  rw [hng, show m + (l.toArray.size - m) = l.toArray.size by omega] at this
  exact this

theorem pRow_nil {Q : Act → Prop} {a : Act} (h : Q a) : pRow P ops S Q [] a := h
theorem pRow_plain {Q : Act → Prop} {a : Act} {i : Nat} {o : Oper} {is : List Nat} (v : Value) (hi : ops[i]? = some o) (hg : o.guard = none)
    (hv : ∀ w, S w → bUpon P v w ((execOp a.eval o).run P w)) (hk : ∀ K : Act → Prop, (∀ a, pRow P ops S Q is a → K a) → K (a.put o.dst v)) : pRow P ops S Q (i :: is) a :=
  ⟨o, hi, v, .inl ⟨by simp [Region.wanted, hg], hv⟩, hk _ (fun _ h => h)⟩

theorem lOp_special' {T : World → Prop} {i : Nat} {o : Oper} {a : Act} {K : (World → Prop) → Act → Prop} (hi : ops[i]? = some o) (V : Value → World → Prop) (hg : o.guard = none) (h1 : ∀ u, Stable (V u)) (h2 : ∀ u w, V u w → S w)
    (hv : ∀ w, T w → sUpon P V ((execOp a.eval o).run P w)) (hk : ∀ u, (∃ w, V u w) → K (V u) (a.put o.dst u)) : lOp P ops S T i K a := by
  unfold lOp
  simp only [hi]
  exact .inr ⟨V, ⟨h1, h2, by simp [Region.wanted, hg], hv⟩, hk⟩
theorem lOp_same {T : World → Prop} {i : Nat} {o : Oper} {a : Act} {K : (World → Prop) → Act → Prop} (v : Value) (hi : ops[i]? = some o) (hg : o.guard = none) (hv : ∀ w, S w → bUpon P v w ((execOp a.eval o).run P w)) (hk : K T (a.put o.dst v)) : lOp P ops S T i K a := by
  unfold lOp
  simp only [hi]
  exact .inl ⟨v, .inl ⟨by simp [Region.wanted, hg], hv⟩, hk⟩
end


end Go.Proofs.Ytgnmolleaengaaa
