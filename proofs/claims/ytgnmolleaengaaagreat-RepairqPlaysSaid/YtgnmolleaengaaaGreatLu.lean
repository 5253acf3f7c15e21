/- A drawn region: operations that yield one value, then those that lay it or turn a map, wherever the draw puts them; then a tail in its order, behind which nothing else is owed. -/
import Derived.Test.YtgnmolleaengaaaGreatLt
set_option linter.unusedVariables false
set_option linter.unusedSimpArgs false
set_option linter.unnecessarySimpa false
namespace Go.Proofs.YtgnmolleaengaaaGreat
open Go Go.RowKit

section
variable {P : Program} {ops : Array Oper} {md : Region.Mode} {S : World → Prop}

def lAnyL (P : Program) (md : Region.Mode) (ops : Array Oper) (S : World → Prop) (n : Nat) (L : Array Bool → (World → Prop) → Act → Prop) : Nat → Array Bool → (World → Prop) → Act → Prop
  | 0, listed, T, a => L listed T a
  | f + 1, listed, T, a =>
    Region.ready md ops listed ≠ [] ∧ ∀ i ∈ Region.ready md ops listed, i < n ∧ lOp P ops S T i (lAnyL P md ops S n L f (listed.setIfInBounds i true)) a

theorem wpAny_of_lHead {n g : Nat} {L : Array Bool → (World → Prop) → Act → Prop} {Q' : Exit → Act → World → Prop} (hL : ∀ listed T a w, T w → L listed T a → wpAny P md ops Q' g listed a w) :
    ∀ (f : Nat) (listed : Array Bool) (T : World → Prop) (a : Act) (w : World), Stable T → (∀ w, T w → S w) → T w → lAnyL P md ops S n L f listed T a → wpAny P md ops Q' (f + g) listed a w
  | 0, listed, T, a, w, _, _, hw, h => by rw [Nat.zero_add]; exact hL _ _ _ _ hw h
  | f + 1, listed, T, a, w, hT, hTS, hw, h => by
    rw [show f + 1 + g = (f + g) + 1 by omega]
    exact ⟨fun h0 => absurd h0 h.1, fun i hi => wpOp_of_lOp hT hTS hw (fun T' a' w' hT' hTS' h' hw' => wpAny_of_lHead hL f _ T' a' w' hT' hTS' hw' h') (h.2 i hi).2⟩

theorem lAnyL_first {n i : Nat} {oi : Oper} {v : Value} {L : Array Bool → (World → Prop) → Act → Prop} (hi : ops[i]? = some oi) (hsel : ∀ (j : Nat) (o : Oper) cs b, ops[j]? = some o → o.op ≠ .select cs b)
    (hs : Region.sinkB md ops n = true) (hc : Region.chainB md ops n = true) (hn : n < ops.size) (hin : i < n)
    (hdone : ∀ listed T a, L listed T a → ∀ j ∈ Region.ready md ops listed, n ≤ j) :
    ∀ (f : Nat) (listed : Array Bool) (T : World → Prop) (a : Act), HeadInv md ops n listed →
      (∀ j oj, ops[j]? = some oj → j ≠ i → listed.getD j true = false → (∀ e ∈ oj.after, Region.binds md e = true → e.on ≠ i) → oi.apart ops oj = true) →
      i ∈ Region.ready md ops listed → bYields P ops S oi v a →
      lAnyL P md ops S n L f (listed.setIfInBounds i true) T (a.put oi.dst v) → lAnyL P md ops S n L (f + 1) listed T a := by
  intro f
  induction f with
  | zero =>
    intro listed T a inv _ hr hy H
    have hun := (mem_ready.1 hr).1
    refine ⟨fun h => (by rw [h] at hr; cases hr), fun j hj => ?_⟩
    have hjn : j < n := by
      rcases Nat.lt_or_ge j n with h | h
      · exact h
      · exact absurd hj (tail_waits hs hc hn inv _ i rfl hin hun j h)
    refine ⟨hjn, ?_⟩
    by_cases hji : j = i
    · subst hji; exact hy.lOp hi H
    · have := hdone _ _ _ H j (ready_mono hj hji)
      omega
  | succ f ih =>
    intro listed T a inv hfree hr hy H
    have hun := (mem_ready.1 hr).1
    refine ⟨fun h => (by rw [h] at hr; cases hr), fun j hj => ?_⟩
    have hjn : j < n := by
      rcases Nat.lt_or_ge j n with h | h
      · exact h
      · exact absurd hj (tail_waits hs hc hn inv _ i rfl hin hun j h)
    refine ⟨hjn, ?_⟩
    by_cases hji : j = i
    · subst hji; exact hy.lOp hi H
    · have h1 := (H.2 j (ready_mono hj hji)).2
      obtain ⟨hjun, oj, hoj, hall⟩ := mem_ready.1 hj
      have hnot : ∀ e ∈ oj.after, Region.binds md e = true → e.on ≠ i := fun e he hb heq => by
        have h1 := hall e he hb
        rw [heq, getD_both hun] at h1
        cases h1
      have h2 := lOp_put hoj (hfree j oj hoj hji hjun hnot) (fun cs b => hsel i oi cs b hi) (fun cs b => hsel j oj cs b hoj) hy h1
      have hfree' : ∀ k ok, ops[k]? = some ok → k ≠ i → (listed.setIfInBounds j true).getD k true = false →
          (∀ e ∈ ok.after, Region.binds md e = true → e.on ≠ i) → oi.apart ops ok = true := fun k ok hk hki hun hno => by
        refine hfree k ok hk hki ?_ hno
        by_cases hjk : j = k
        · subst hjk; exact hjun
        · rw [getD_set_ne true hjk] at hun; exact hun
      refine lOp_mono (fun T' a' h3 => ih (listed.setIfInBounds j true) T' a' (inv.set hj hjn) hfree' (ready_mono hr (Ne.symm hji)) h3.1 ?_) h2
      rw [Array.setIfInBounds_comm _ _ hji]
      exact h3.2

theorem lAnyL_of_seq {n g : Nat} {Lq : Act → World → Prop} : ∀ (l : List Oper) (k : Nat) (listed : Array Bool) (T : World → Prop) (a : Act), (∀ j, j < l.length → l[j]? = ops[k + j]?) → k + l.length = n →
    Region.seqB md ops (l.length + g) k listed = true → sRow P ops S Lq l T a →
    lAnyL P md ops S n (fun listed' T' a' => Region.seqB md ops g n listed' = true ∧ ∀ w, T' w → Lq a' w) l.length listed T a
  | [], k, listed, T, a, _, hk, hB, h => by
    have : k = n := by simpa using hk
    subst this
    exact ⟨by simpa using hB, h⟩
  | o :: l, k, listed, T, a, hl, hk, hB, h => by
    have h0 : ops[k]? = some o := by simpa using (hl 0 (by simp)).symm
    rw [show (o :: l).length + g = (l.length + g) + 1 by simp; omega] at hB
    simp only [Region.seqB, Bool.and_eq_true, decide_eq_true_eq] at hB
    refine ⟨fun h1 => (by rw [hB.1] at h1; cases h1), fun i hi => ?_⟩
    rw [hB.1] at hi
    have hik : i = k := by simpa using hi
    subst hik
    refine ⟨by simp only [List.length_cons] at hk; omega, ?_⟩
    have hw : lOp P ops S T i (sRow P ops S Lq l) a := by unfold lOp; simp only [h0]; exact h
    exact lOp_mono (fun T' a' h' => lAnyL_of_seq l (i + 1) _ T' a' (fun j hj => by have := hl (j + 1) (by simp; omega); simpa [Nat.add_assoc, Nat.add_comm 1 j] using this) (by simp only [List.length_cons] at hk; omega) hB.2 h') hw

theorem lAnyL_lex {n g : Nat} {Lq : Act → World → Prop} {T : World → Prop} {tl : List Oper} (hsel : Region.noSelect ops = true) (hs : Region.sinkB md ops n = true) (hc : Region.chainB md ops n = true) (hn : n < ops.size) :
    ∀ (l : List Oper) (k : Nat) (listed : Array Bool) (a : Act), (∀ j, j < (l ++ tl).length → (l ++ tl)[j]? = ops[k + j]?) → k + (l ++ tl).length = n → HeadInv md ops n listed →
    Region.lexHead md ops (tl.length + g) l.length k listed = true → bRow P ops S (fun a => sRow P ops S Lq tl T a) l a →
    lAnyL P md ops S n (fun listed' T' a' => Region.seqB md ops g n listed' = true ∧ ∀ w, T' w → Lq a' w) (l ++ tl).length listed T a
  | [], k, listed, a, hl, hk, _, hB, h => by
    have := lAnyL_of_seq (md := md) (P := P) (S := S) (n := n) (g := g) (Lq := Lq) tl k listed T a (fun j hj => by simpa using hl j (by simpa using hj)) (by simpa using hk) (by simpa [Region.lexHead] using hB) h
    simpa using this
  | o :: l, k, listed, a, hl, hk, inv, hB, h => by
    have h0 : ops[k]? = some o := by simpa using (hl 0 (by simp)).symm
    simp only [List.length_cons, Region.lexHead, Bool.and_eq_true] at hB
    obtain ⟨⟨hr, hf⟩, hB'⟩ := hB
    have hkn : k < n := by simp only [List.cons_append, List.length_cons] at hk; omega
    have hr' : k ∈ Region.ready md ops listed := by simpa using hr
    obtain ⟨v, hy, hK⟩ := h
    exact lAnyL_first h0 (Region.noSelect_spec hsel) hs hc hn hkn (fun listed' T' a' hL => seqB_ready hL.1) (l ++ tl).length listed T a inv (Region.free_spec h0 hf) hr' hy
      (lAnyL_lex hsel hs hc hn l (k + 1) _ _ (fun j hj => by have := hl (j + 1) (by simp at hj ⊢; omega); simpa [Nat.add_assoc, Nat.add_comm 1 j] using this) (by simp only [List.cons_append, List.length_cons] at hk; omega) (inv.set hr' hkn) hB' hK)

/-- n determined operations, m of them and specials, then the tail -/
def lateTailB (ops : Array Oper) (n m : Nat) : Bool := Region.noSelect ops && decide (n ≤ m) && decide (m < ops.size) && Region.sinkB .any ops m && Region.chainB .any ops m && Region.lexHead .any ops (ops.size - n) n 0 (Array.replicate ops.size false)

theorem wp_region_late_tail {id : Nat} {Q : Exit → Act → World → Prop} {a : Act} {w : World} {l : List Oper} (S : World → Prop) (n m : Nat) (hm : P.follows .mixedOrders = true) (hB : lateTailB l.toArray n m = true)
    (hSt : Stable S) (hS : S w) (h : bRow P l.toArray S (fun a' => sRow P l.toArray S (fun a w => wpList P l.toArray Q (l.drop m) a w) ((l.take m).drop n) S a') (l.take n) a) : (Code.region id l.toArray true).wp P Q a w := by
  simp only [lateTailB, Bool.and_eq_true, decide_eq_true_eq] at hB
  obtain ⟨⟨⟨⟨⟨hsel, hnm⟩, hml⟩, hs⟩, hc⟩, hlex⟩ := hB
  have hm' : m < l.length := by simpa using hml
  have htl : (l.take n).length = n := by simp; omega
  have hmid : ((l.take m).drop n).length = m - n := by simp; omega
  have hdl : (l.drop m).length = l.toArray.size - m := by simp
  have happ : l.take n ++ (l.take m).drop n = l.take m := by
    have e : (l.take m).take n = l.take n := by rw [List.take_take, Nat.min_eq_left hnm]
    rw [← e]
    exact List.take_append_drop n (l.take m)
  have hal : (l.take n ++ (l.take m).drop n).length = m := by rw [happ]; simp; omega
  have inv0 : HeadInv .any l.toArray m (Array.replicate l.toArray.size false) :=
    ⟨by simp, fun j oj _ hl => (by rw [getD_replicate_false] at hl; cases hl), fun t _ ht => getD_in (by simpa using ht) (getD_replicate_false _ _)⟩
  have H := lAnyL_lex (md := .any) (g := l.toArray.size - m) (T := S) (tl := (l.take m).drop n) hsel hs hc hml (l.take n) 0 _ a (fun j hj => by
    rw [hal] at hj
    rw [happ]
    simp [hj]) (by rw [hal]; omega) inv0 (by rw [htl, hmid, show m - n + (l.toArray.size - m) = l.toArray.size - n by omega]; exact hlex) h
  refine wp_region_any hm ?_
  have hS1 : S { w with drawn := w.drawn + 1 } := hSt _ _ hS (Below.refl _ _).drew
  have := wpAny_of_lHead (Q' := Q) (g := l.toArray.size - m) (fun listed' T' a' w' hw' hL => by
    have := wpAny_of_seq (md := .any) (Q' := Q) (l.drop m) m listed' a' w' (fun j => by simp [List.getElem?_drop]) (by rw [hdl]; exact hL.1) (hL.2 w' hw')
    rwa [hdl] at this) _ _ _ _ _ hSt (fun _ h => h) hS1 H
  rw [hal, show m + (l.toArray.size - m) = l.toArray.size by omega] at this
  exact this

/-- as wp_region_late, from a sharper condition -/
theorem wp_region_late_from {id : Nat} {Q : Exit → Act → World → Prop} {a : Act} {w : World} {l : List Oper} (S T : World → Prop) (n : Nat) (hm : P.follows .mixedOrders = true) (hB : lateB l.toArray n = true)
    (hSt : Stable T) (hTS : ∀ w, T w → S w) (hS : T w) (h : bRow P l.toArray S (fun a' => sRow P l.toArray S (fun a w => Q .normal a w) (l.drop n) T a') (l.take n) a) : (Code.region id l.toArray true).wp P Q a w := by
  simp only [lateB, Bool.and_eq_true, decide_eq_true_eq] at hB
  obtain ⟨⟨hsel, hn⟩, hlex⟩ := hB
  have hn' : n ≤ l.length := by simpa using hn
  have htl : (l.take n).length = n := by simp; omega
  have hdl : (l.drop n).length = l.toArray.size - n := by simp
  have H := lAny_lex (md := .any) (Q := fun a w => Q .normal a w) (T := T) (tl := l.drop n) hsel (l.take n) 0 (Array.replicate l.toArray.size false) a (fun j => by simp) (by rw [htl, hdl]; exact hlex) h
  refine wp_region_any hm ?_
  have hS1 : T { w with drawn := w.drawn + 1 } := hSt _ _ hS (Below.refl _ _).drew
  have := wpAny_of_lAny (Q' := Q) (fun _ _ h => h) _ _ _ _ _ hSt hTS hS1 H
  rw [htl, hdl, show n + (l.toArray.size - n) = l.toArray.size by simp; omega] at this
  exact this
end
end Go.Proofs.YtgnmolleaengaaaGreat
