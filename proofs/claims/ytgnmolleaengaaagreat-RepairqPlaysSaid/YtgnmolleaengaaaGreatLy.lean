/- A drawn region whose operations run in several orders, with a tail: first those that yield one value, in any order that they allow; then step by step; then the tail in its order. -/
import Derived.Test.YtgnmolleaengaaaGreatLu
set_option linter.unusedVariables false
set_option linter.unusedSimpArgs false
set_option linter.unnecessarySimpa false
namespace Go.Proofs.YtgnmolleaengaaaGreat
open Go Go.RowKit

section
variable {P : Program} {ops : Array Oper} {md : Region.Mode} {S : World → Prop}

/-- what is owed at the tail's head -/
def TailAt (P : Program) (md : Region.Mode) (ops : Array Oper) (g n : Nat) (Lq : Act → World → Prop) (listed : Array Bool) (T : World → Prop) (a : Act) : Prop := Region.seqB md ops g n listed = true ∧ ∀ w, T w → Lq a w

theorem lAnyL_step {n : Nat} {L : Array Bool → (World → Prop) → Act → Prop} {T : World → Prop} {fuel : Nat} {listed : Array Bool} {a : Act} (rs : List Nat) (hr : Region.ready md ops listed = rs) (hne : rs ≠ []) (hlt : rs.all (· < n) = true)
    (h : ∀ i ∈ rs, lOp P ops S T i (lAnyL P md ops S n L fuel (listed.setIfInBounds i true)) a) : lAnyL P md ops S n L (fuel + 1) listed T a :=
  ⟨fun h0 => absurd (hr.symm.trans h0) hne, fun i hi => by
    rw [hr] at hi
    exact ⟨by simpa using List.all_eq_true.1 hlt i hi, h i hi⟩⟩

def setMany (listed : Array Bool) : List Nat → Array Bool
  | [] => listed
  | i :: is => setMany (listed.setIfInBounds i true) is
def preB (md : Region.Mode) (ops : Array Oper) (n : Nat) : List Nat → Array Bool → Bool
  | [], _ => true
  | i :: is, listed => decide (i < n) && (Region.ready md ops listed).contains i && Region.free md ops listed i && preB md ops n is (listed.setIfInBounds i true)
def pRow (P : Program) (ops : Array Oper) (S : World → Prop) (Q : Act → Prop) : List Nat → Act → Prop
  | [], a => Q a
  | i :: is, a => ∃ o, ops[i]? = some o ∧ ∃ v, bYields P ops S o v a ∧ pRow P ops S Q is (a.put o.dst v)

theorem lAnyL_pick {n : Nat} {L : Array Bool → (World → Prop) → Act → Prop} {T : World → Prop} (g : Nat) (hsel : Region.noSelect ops = true) (hs : Region.sinkB md ops n = true) (hc : Region.chainB md ops n = true) (hn : n < ops.size)
    (hdone : ∀ listed T a, L listed T a → ∀ j ∈ Region.ready md ops listed, n ≤ j) : ∀ (is : List Nat) (listed : Array Bool) (a : Act), HeadInv md ops n listed → preB md ops n is listed = true →
    pRow P ops S (fun a => lAnyL P md ops S n L g (setMany listed is) T a) is a → lAnyL P md ops S n L (is.length + g) listed T a
  | [], listed, a, _, _, h => by simpa [pRow, setMany] using h
  | i :: is, listed, a, inv, hB, ⟨o, h0, v, hy, h⟩ => by
    simp only [preB, Bool.and_eq_true, decide_eq_true_eq] at hB
    obtain ⟨⟨⟨hin, hr⟩, hf⟩, hB'⟩ := hB
    have hr' : i ∈ Region.ready md ops listed := by simpa using hr
    have IH := lAnyL_pick (T := T) g hsel hs hc hn hdone is _ _ (inv.set hr' hin) hB' h
    have := lAnyL_first h0 (Region.noSelect_spec hsel) hs hc hn hin hdone (is.length + g) listed T a inv (Region.free_spec h0 hf) hr' hy IH
    rw [show (i :: is).length + g = is.length + g + 1 by simp; omega]
    exact this

def pickB (ops : Array Oper) (is : List Nat) (g m : Nat) : Bool := Region.noSelect ops && decide (is.length + g = m) && decide (m < ops.size) && Region.sinkB .any ops m && Region.chainB .any ops m && preB .any ops m is (Array.replicate ops.size false)

theorem wp_region_pick_tail {id : Nat} {Q : Exit → Act → World → Prop} {a : Act} {w : World} {l : List Oper} (S T : World → Prop) (is : List Nat) (g m : Nat) (hm : P.follows .mixedOrders = true) (hB : pickB l.toArray is g m = true)
    (hSt : Stable T) (hTS : ∀ w, T w → S w) (hS : T w)
    (h : pRow P l.toArray S (fun a' => lAnyL P .any l.toArray S m (TailAt P .any l.toArray (l.toArray.size - m) m (fun a w => wpList P l.toArray Q (l.drop m) a w)) g (setMany (Array.replicate l.toArray.size false) is) T a') is a) : (Code.region id l.toArray true).wp P Q a w := by
  simp only [pickB, Bool.and_eq_true, decide_eq_true_eq] at hB
  obtain ⟨⟨⟨⟨⟨hsel, hng⟩, hml⟩, hs⟩, hc⟩, hpre⟩ := hB
  have hm' : m < l.length := by simpa using hml
  have hdl : (l.drop m).length = l.toArray.size - m := by simp
  have inv0 : HeadInv .any l.toArray m (Array.replicate l.toArray.size false) :=
    ⟨by simp, fun j oj _ hl => (by rw [getD_replicate_false] at hl; cases hl), fun t _ ht => getD_in (by simpa using ht) (getD_replicate_false _ _)⟩
  have H := lAnyL_pick (md := .any) (T := T) g hsel hs hc hml (fun listed' T' a' hL => seqB_ready hL.1) is _ a inv0 hpre h
  refine wp_region_any hm ?_
  have hS1 : T { w with drawn := w.drawn + 1 } := hSt _ _ hS (Below.refl _ _).drew
  have := wpAny_of_lHead (Q' := Q) (g := l.toArray.size - m) (fun listed' T' a' w' hw' hL => by
    have := wpAny_of_seq (md := .any) (Q' := Q) (l.drop m) m listed' a' w' (fun j => by simp [List.getElem?_drop]) (by rw [hdl]; exact hL.1) (hL.2 w' hw')
    rwa [hdl] at this) _ _ _ _ _ hSt hTS hS1 H
  rw [hng, show m + (l.toArray.size - m) = l.toArray.size by omega] at this
  exact this

theorem pRow_nil {Q : Act → Prop} {a : Act} (h : Q a) : pRow P ops S Q [] a := h
theorem pRow_plain {Q : Act → Prop} {a : Act} {i : Nat} {o : Oper} {is : List Nat} (v : Value) (hi : ops[i]? = some o) (hg : o.guard = none)
    (hv : ∀ w, S w → bUpon P v w ((execOp a.eval o).run P w)) (hk : ∀ K : Act → Prop, (∀ a, pRow P ops S Q is a → K a) → K (a.put o.dst v)) : pRow P ops S Q (i :: is) a :=
  ⟨o, hi, v, .inl ⟨by simp [Region.wanted, hg], hv⟩, hk _ (fun _ h => h)⟩

theorem lOp_special' {T : World → Prop} {i : Nat} {o : Oper} {a : Act} {K : (World → Prop) → Act → Prop} (hi : ops[i]? = some o) (V : Value → World → Prop) (hg : o.guard = none) (h1 : ∀ u, Stable (V u)) (h2 : ∀ u w, V u w → S w)
    (hv : ∀ w, T w → sUpon P V ((execOp a.eval o).run P w)) (hk : ∀ u, (∃ w, V u w) → K (V u) (a.put o.dst u)) : lOp P ops S T i K a := by
  unfold lOp
  simp only [hi]
  exact .inr ⟨V, ⟨h1, h2, by simp [Region.wanted, hg], hv⟩, hk⟩
theorem lOp_same {T : World → Prop} {i : Nat} {o : Oper} {a : Act} {K : (World → Prop) → Act → Prop} (v : Value) (hi : ops[i]? = some o) (hg : o.guard = none) (hv : ∀ w, S w → bUpon P v w ((execOp a.eval o).run P w)) (hk : K T (a.put o.dst v)) : lOp P ops S T i K a := by
  unfold lOp
  simp only [hi]
  exact .inl ⟨v, .inl ⟨by simp [Region.wanted, hg], hv⟩, hk⟩
end


end Go.Proofs.YtgnmolleaengaaaGreat

/- A drawn region: two special operations that stand ready side by side, in either order. -/
namespace Go.Proofs.YtgnmolleaengaaaGreat
open Go Go.RowKit

section
variable {P : Program} {ops : Array Oper} {md : Region.Mode} {S : World → Prop}

def twoB (md : Region.Mode) (ops : Array Oper) (n : Nat) (listed : Array Bool) (i j : Nat) : Bool :=
  decide (Region.ready md ops listed = [i, j]) && decide (Region.ready md ops (listed.setIfInBounds i true) = [j]) && decide (Region.ready md ops (listed.setIfInBounds j true) = [i]) && decide (i < n) && decide (j < n) && decide (i ≠ j) &&
  match ops[i]?, ops[j]? with
  | some x, some y => x.apart ops y
  | _, _ => false

theorem lAnyL_two {n f : Nat} {L : Array Bool → (World → Prop) → Act → Prop} {T : World → Prop} {listed : Array Bool} {a : Act} (i j : Nat) {x y : Oper} (hi : ops[i]? = some x) (hj : ops[j]? = some y) (hB : twoB md ops n listed i j = true)
    (gi : x.guard = none) (gj : y.guard = none) (V1 V2 : Value → World → Prop) (V : Value → Value → World → Prop) (k1 : ∀ u, Stable (V1 u)) (k2 : ∀ u, Stable (V2 u)) (k3 : ∀ u u', Stable (V u u'))
    (b1 : ∀ u w, V1 u w → S w) (b2 : ∀ u w, V2 u w → S w) (b3 : ∀ u u' w, V u u' w → S w)
    (r1 : ∀ w, T w → sUpon P V1 ((execOp a.eval x).run P w)) (r2 : ∀ w, T w → sUpon P V2 ((execOp a.eval y).run P w))
    (r12 : ∀ u w, V1 u w → sUpon P (fun u' w' => V u u' w') ((execOp (a.put x.dst u).eval y).run P w)) (r21 : ∀ u' w, V2 u' w → sUpon P (fun u w' => V u u' w') ((execOp (a.put y.dst u').eval x).run P w))
    (h : ∀ u u', (∃ w, V u u' w) → ∀ K : Act → Prop, (∀ a, lAnyL P md ops S n L f ((listed.setIfInBounds i true).setIfInBounds j true) (V u u') a → K a) → K ((a.put x.dst u).put y.dst u')) :
    lAnyL P md ops S n L (f + 2) listed T a := by
  simp only [twoB, Bool.and_eq_true, decide_eq_true_eq, hi, hj] at hB
  obtain ⟨⟨⟨⟨⟨⟨q1, q2⟩, q3⟩, q4⟩, q5⟩, q6⟩, q7⟩ := hB
  obtain ⟨-, h2, -⟩ := Oper.apart_spec q7
  refine lAnyL_step [i, j] q1 (by simp) (by simp [q4, q5]) fun k hk => ?_
  have hk' : k = i ∨ k = j := by simpa using hk
  rcases hk' with rfl | rfl
  · refine lOp_special' hi V1 gi k1 b1 r1 fun u hu => ?_
    refine lAnyL_step [j] q2 (by simp) (by simp [q5]) fun k hk => ?_
    obtain rfl : k = j := by simpa using hk
    exact lOp_special' hj (V u) gj (k3 u) (b3 u) (r12 u) fun u' hu' => h u u' hu' _ (fun _ h => h)
  · refine lOp_special' hj V2 gj k2 b2 r2 fun u' hu' => ?_
    refine lAnyL_step [i] q3 (by simp) (by simp [q4]) fun k hk => ?_
    obtain rfl : k = i := by simpa using hk
    refine lOp_special' hi (fun u => V u u') gi (fun u => k3 u u') (fun u => b3 u u') (r21 u') fun u hu => ?_
    rw [Array.setIfInBounds_comm _ _ (Ne.symm q6), ← Act.put_comm a u u' h2]
    exact h u u' hu _ (fun _ h => h)
end
end Go.Proofs.YtgnmolleaengaaaGreat

/- A drawn region without a tail: a determined prefix in any order, two special operations side by side, single steps, the determined rest. -/
namespace Go.Proofs.YtgnmolleaengaaaGreat
open Go Go.RowKit

section
variable {P : Program} {ops : Array Oper} {md : Region.Mode} {S : World → Prop}

theorem lAny_step {Q : Act → World → Prop} {T : World → Prop} {fuel : Nat} {listed : Array Bool} {a : Act} (rs : List Nat) (hr : Region.ready md ops listed = rs) (hne : rs ≠ [])
    (h : ∀ i ∈ rs, lOp P ops S T i (lAny P md ops S Q fuel (listed.setIfInBounds i true)) a) : lAny P md ops S Q (fuel + 1) listed T a :=
  ⟨fun h0 => absurd (hr.symm.trans h0) hne, fun i hi => h i (by rw [← hr]; exact hi)⟩
theorem lAny_end {Q : Act → World → Prop} {T : World → Prop} {listed : Array Bool} {a : Act} (hr : Region.ready md ops listed = []) (h : ∀ w, T w → Q a w) : lAny P md ops S Q 0 listed T a := ⟨hr, h⟩

def preA (md : Region.Mode) (ops : Array Oper) : List Nat → Array Bool → Bool
  | [], _ => true
  | i :: is, listed => (Region.ready md ops listed).contains i && Region.free md ops listed i && preA md ops is (listed.setIfInBounds i true)

theorem lAny_pick {Q : Act → World → Prop} {T : World → Prop} (g : Nat) (hsel : Region.noSelect ops = true) : ∀ (is : List Nat) (listed : Array Bool) (a : Act), preA md ops is listed = true →
    pRow P ops S (fun a => lAny P md ops S Q g (setMany listed is) T a) is a → lAny P md ops S Q (is.length + g) listed T a
  | [], listed, a, _, h => by simpa [pRow, setMany] using h
  | i :: is, listed, a, hB, ⟨o, h0, v, hy, h⟩ => by
    simp only [preA, Bool.and_eq_true] at hB
    obtain ⟨⟨hr, hf⟩, hB'⟩ := hB
    have hr' : i ∈ Region.ready md ops listed := by simpa using hr
    have IH := lAny_pick (T := T) g hsel is _ _ hB' h
    have := lAny_first h0 (Region.noSelect_spec hsel) (is.length + g) listed T a (Region.free_spec h0 hf) hr' hy IH
    rw [show (i :: is).length + g = is.length + g + 1 by simp; omega]
    exact this

theorem wp_region_pick {id : Nat} {Q : Exit → Act → World → Prop} {a : Act} {w : World} {l : List Oper} (S T : World → Prop) (is : List Nat) (g : Nat) (hm : P.follows .mixedOrders = true) (hsel : Region.noSelect l.toArray = true) (hng : is.length + g = l.length)
    (hB : preA .any l.toArray is (Array.replicate l.toArray.size false) = true) (hSt : Stable T) (hTS : ∀ w, T w → S w) (hS : T w)
    (h : pRow P l.toArray S (fun a' => lAny P .any l.toArray S (fun a w => Q .normal a w) g (setMany (Array.replicate l.toArray.size false) is) T a') is a) : (Code.region id l.toArray true).wp P Q a w := by
  have H := lAny_pick (md := .any) (Q := fun a w => Q .normal a w) (T := T) g hsel is (Array.replicate l.toArray.size false) a hB h
  refine wp_region_any hm ?_
  have hS1 : T { w with drawn := w.drawn + 1 } := hSt _ _ hS (Below.refl _ _).drew
  have := wpAny_of_lAny (Q' := Q) (fun _ _ h => h) _ _ _ _ _ hSt hTS hS1 H
  rw [hng, show l.length = l.toArray.size by simp] at this
  exact this

/-- the determined rest -/
theorem lAny_rest {Q : Act → World → Prop} {T : World → Prop} (is : List Nat) (hsel : Region.noSelect ops = true) {listed : Array Bool} {a : Act} (hB : preA md ops is listed = true) (h0 : Region.ready md ops (setMany listed is) = [])
    (h : pRow P ops S (fun a => ∀ w, T w → Q a w) is a) : lAny P md ops S Q is.length listed T a := by
  have key : ∀ (is : List Nat) (a : Act), pRow P ops S (fun a => ∀ w, T w → Q a w) is a → ∀ l0, Region.ready md ops l0 = [] → pRow P ops S (fun a => lAny P md ops S Q 0 l0 T a) is a := by
    intro is
    induction is with
    | nil => intro a h l0 hl; exact ⟨hl, h⟩
    | cons i is ih => rintro a ⟨o, h1, v, hy, h⟩ l0 hl; exact ⟨o, h1, v, hy, ih _ h l0 hl⟩
  exact lAny_pick 0 hsel is listed a hB (key is a h _ h0)

def twoA (md : Region.Mode) (ops : Array Oper) (listed : Array Bool) (i j : Nat) : Bool :=
  decide (Region.ready md ops listed = [i, j]) && decide (Region.ready md ops (listed.setIfInBounds i true) = [j]) && decide (Region.ready md ops (listed.setIfInBounds j true) = [i]) && decide (i ≠ j) &&
  match ops[i]?, ops[j]? with
  | some x, some y => x.apart ops y
  | _, _ => false

theorem lAny_two {f : Nat} {Q : Act → World → Prop} {T : World → Prop} {listed : Array Bool} {a : Act} (i j : Nat) {x y : Oper} (hi : ops[i]? = some x) (hj : ops[j]? = some y) (hB : twoA md ops listed i j = true)
    (gi : x.guard = none) (gj : y.guard = none) (V1 V2 : Value → World → Prop) (V : Value → Value → World → Prop) (k1 : ∀ u, Stable (V1 u)) (k2 : ∀ u, Stable (V2 u)) (k3 : ∀ u u', Stable (V u u'))
    (b1 : ∀ u w, V1 u w → S w) (b2 : ∀ u w, V2 u w → S w) (b3 : ∀ u u' w, V u u' w → S w)
    (r1 : ∀ w, T w → sUpon P V1 ((execOp a.eval x).run P w)) (r2 : ∀ w, T w → sUpon P V2 ((execOp a.eval y).run P w))
    (r12 : ∀ u w, V1 u w → sUpon P (fun u' w' => V u u' w') ((execOp (a.put x.dst u).eval y).run P w)) (r21 : ∀ u' w, V2 u' w → sUpon P (fun u w' => V u u' w') ((execOp (a.put y.dst u').eval x).run P w))
    (h : ∀ u u', (∃ w, V u u' w) → ∀ K : Act → Prop, (∀ a, lAny P md ops S Q f ((listed.setIfInBounds i true).setIfInBounds j true) (V u u') a → K a) → K ((a.put x.dst u).put y.dst u')) :
    lAny P md ops S Q (f + 2) listed T a := by
  simp only [twoA, Bool.and_eq_true, decide_eq_true_eq, hi, hj] at hB
  obtain ⟨⟨⟨⟨q1, q2⟩, q3⟩, q6⟩, q7⟩ := hB
  obtain ⟨-, h2, -⟩ := Oper.apart_spec q7
  refine lAny_step [i, j] q1 (by simp) fun k hk => ?_
  have hk' : k = i ∨ k = j := by simpa using hk
  rcases hk' with rfl | rfl
  · refine lOp_special' hi V1 gi k1 b1 r1 fun u hu => ?_
    refine lAny_step [j] q2 (by simp) fun k hk => ?_
    obtain rfl : k = j := by simpa using hk
    exact lOp_special' hj (V u) gj (k3 u) (b3 u) (r12 u) fun u' hu' => h u u' hu' _ (fun _ h => h)
  · refine lOp_special' hj V2 gj k2 b2 r2 fun u' hu' => ?_
    refine lAny_step [i] q3 (by simp) fun k hk => ?_
    obtain rfl : k = i := by simpa using hk
    refine lOp_special' hi (fun u => V u u') gi (fun u => k3 u u') (fun u => b3 u u') (r21 u') fun u hu => ?_
    rw [Array.setIfInBounds_comm _ _ (Ne.symm q6), ← Act.put_comm a u u' h2]
    exact h u u' hu _ (fun _ h => h)
end
end Go.Proofs.YtgnmolleaengaaaGreat
