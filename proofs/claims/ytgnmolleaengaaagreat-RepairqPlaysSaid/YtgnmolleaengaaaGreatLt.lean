/- A drawn region in which one result is laid into a block of its own: the operations that yield one value first, then those that lay it, wherever the draw puts them. -/
import Derived.Test.YtgnmolleaengaaaGreatGr
import Derived.Laws.NewBlocks
import Derived.Below
set_option linter.unusedVariables false
set_option linter.unusedSimpArgs false
set_option linter.unnecessarySimpa false
namespace Go.Proofs.YtgnmolleaengaaaGreat
open Go Go.RowKit

section
variable {P : Program} {ops : Array Oper} {md : Region.Mode} {S : World → Prop}

/-- a condition that growth keeps -/
def Stable (T : World → Prop) : Prop := ∀ w w', T w → Below w.heap.size w w' → T w'

/-- yields v, and the world only grows -/
def bUpon (P : Program) (v : Value) (w : World) : Result Next → Prop
  | .ok (.value u) w' => Below w.heap.size w w' ∧ u = v
  | .ok .skip w' => Below w.heap.size w w' ∧ undef = v
  | .ok (.enter f args) w' => Calls P f args w' (fun e w'' => e = .returned v ∧ Below w.heap.size w w'')
  | .ok (.row row args) w' => Rows P row args w' (fun u w'' => u = v ∧ Below w.heap.size w w'')
  | _ => False

/-- yields what V allows -/
def sUpon (P : Program) (V : Value → World → Prop) : Result Next → Prop
  | .ok (.value u) w' => V u w'
  | .ok .skip w' => V undef w'
  | .ok (.enter f args) w' => Calls P f args w' (fun e w'' => ∃ u, e = .returned u ∧ V u w'')
  | _ => False

def bYields (P : Program) (ops : Array Oper) (S : World → Prop) (o : Oper) (v : Value) (a : Act) : Prop :=
  (Region.wanted o (yielded ops a.tmps) = true ∧ ∀ w, S w → bUpon P v w ((execOp a.eval o).run P w)) ∨
  (Region.wanted o (yielded ops a.tmps) = false ∧ v = undef)

theorem bYields.of_same {o : Oper} {v : Value} {a a' : Act} (hy : bYields P ops S o v a) (he : execOp a'.eval o = execOp a.eval o)
    (hw : Region.wanted o (yielded ops a'.tmps) = Region.wanted o (yielded ops a.tmps)) : bYields P ops S o v a' := by
  unfold bYields at *
  rw [he, hw]
  exact hy

/-- a special operation from T leads to V -/
def sStep (P : Program) (ops : Array Oper) (S T : World → Prop) (o : Oper) (V : Value → World → Prop) (a : Act) : Prop :=
  (∀ u, Stable (V u)) ∧ (∀ u w, V u w → S w) ∧ Region.wanted o (yielded ops a.tmps) = true ∧ ∀ w, T w → sUpon P V ((execOp a.eval o).run P w)

theorem sStep.of_same {T : World → Prop} {o : Oper} {V : Value → World → Prop} {a a' : Act} (hy : sStep P ops S T o V a) (he : execOp a'.eval o = execOp a.eval o)
    (hw : Region.wanted o (yielded ops a'.tmps) = Region.wanted o (yielded ops a.tmps)) : sStep P ops S T o V a' := by
  unfold sStep at *
  rw [he, hw]
  exact hy

def lOp (P : Program) (ops : Array Oper) (S T : World → Prop) (i : Nat) (K : (World → Prop) → Act → Prop) (a : Act) : Prop :=
  match ops[i]? with
  | none => K T a
  | some o => (∃ v, bYields P ops S o v a ∧ K T (a.put o.dst v)) ∨ (∃ V, sStep P ops S T o V a ∧ ∀ u, (∃ w, V u w) → K (V u) (a.put o.dst u))

theorem lOp_mono {T : World → Prop} {i : Nat} {a : Act} {K K' : (World → Prop) → Act → Prop} (h : ∀ T a, K T a → K' T a) (hh : lOp P ops S T i K a) : lOp P ops S T i K' a := by
  unfold lOp at *
  split
  · exact h _ _ (by simpa [*] using hh)
  · rename_i o ho
    simp only [ho] at hh
    rcases hh with ⟨v, hy, hk⟩ | ⟨V, hs, hk⟩
    · exact .inl ⟨v, hy, h _ _ hk⟩
    · exact .inr ⟨V, hs, fun u hu => h _ _ (hk u hu)⟩

theorem wp_of_bUpon {T : World → Prop} {o : Oper} {a : Act} {w : World} {v : Value} {K' : Act → World → Prop} {Q' : Exit → Act → World → Prop} (hT : Stable T) (hw : T w)
    (h : ∀ w', T w' → K' (a.put o.dst v) w') (hh : bUpon P v w ((execOp a.eval o).run P w)) : o.wp P a w K' Q' := by
  unfold Oper.wp
  generalize (execOp a.eval o).run P w = r at *
  cases r with
  | ok n w' =>
    cases n <;> simp only [bUpon] at hh <;> simp only [Oper.upon]
    case value u => obtain ⟨hS, rfl⟩ := hh; exact h _ (hT _ _ hw hS)
    case skip => obtain ⟨hS, rfl⟩ := hh; exact h _ (hT _ _ hw hS)
    case enter f args => exact hh.mono fun e w'' ⟨he, hb⟩ => by subst he; exact h _ (hT _ _ hw hb)
    case row row args => exact hh.mono fun u w'' ⟨he, hb⟩ => by subst he; exact h _ (hT _ _ hw hb)
  | halt x w' => simp only [bUpon] at hh

theorem wp_of_sUpon {V : Value → World → Prop} {o : Oper} {a : Act} {w : World} {K' : Act → World → Prop} {Q' : Exit → Act → World → Prop}
    (h : ∀ u w', V u w' → K' (a.put o.dst u) w') (hh : sUpon P V ((execOp a.eval o).run P w)) : o.wp P a w K' Q' := by
  unfold Oper.wp
  generalize (execOp a.eval o).run P w = r at *
  cases r with
  | ok n w' =>
    cases n <;> simp only [sUpon] at hh <;> simp only [Oper.upon]
    case value u => exact h _ _ hh
    case skip => exact h _ _ hh
    case enter f args => exact hh.mono fun e w'' ⟨u, he, hb⟩ => by subst he; exact h _ _ hb
  | halt x w' => simp only [sUpon] at hh

theorem wpOp_of_lOp {T : World → Prop} {i : Nat} {a : Act} {w : World} {K : (World → Prop) → Act → Prop} {K' : Act → World → Prop} {Q' : Exit → Act → World → Prop} (hT : Stable T) (hTS : ∀ w, T w → S w) (hw : T w)
    (h : ∀ T' a w, Stable T' → (∀ w, T' w → S w) → K T' a → T' w → K' a w) (hh : lOp P ops S T i K a) : wpOp P ops Q' i K' a w := by
  unfold lOp at hh
  unfold wpOp
  split
  · rename_i ho; simp only [ho] at hh; exact h _ _ _ hT hTS hh hw
  · rename_i o ho
    simp only [ho] at hh
    rcases hh with ⟨v, hy, hk⟩ | ⟨V, ⟨h1, h2, h3, h4⟩, hk⟩
    · rcases hy with ⟨hwa, hv⟩ | ⟨hwa, rfl⟩
      · simp only [hwa, if_true]; exact .inl (wp_of_bUpon hT hw (fun w' hw' => h _ _ _ hT hTS hk hw') (hv w (hTS _ hw)))
      · simp only [hwa, Bool.false_eq_true, if_false]; exact h _ _ _ hT hTS hk hw
    · simp only [h3, if_true]; exact .inl (wp_of_sUpon (fun u w' hw' => h _ _ _ (h1 u) (h2 u) (hk u ⟨_, hw'⟩) hw') (h4 w hw))

def lAny (P : Program) (md : Region.Mode) (ops : Array Oper) (S : World → Prop) (Q : Act → World → Prop) : Nat → Array Bool → (World → Prop) → Act → Prop
  | 0, listed, T, a => Region.ready md ops listed = [] ∧ ∀ w, T w → Q a w
  | fuel + 1, listed, T, a =>
    (Region.ready md ops listed = [] → ∀ w, T w → Q a w) ∧
    ∀ i ∈ Region.ready md ops listed, lOp P ops S T i (lAny P md ops S Q fuel (listed.setIfInBounds i true)) a

theorem wpAny_of_lAny {Q : Act → World → Prop} {Q' : Exit → Act → World → Prop} (hQ : ∀ a w, Q a w → Q' .normal a w) : ∀ (fuel : Nat) (listed : Array Bool) (T : World → Prop) (a : Act) (w : World),
    Stable T → (∀ w, T w → S w) → T w → lAny P md ops S Q fuel listed T a → wpAny P md ops Q' fuel listed a w
  | 0, _, _, _, _, _, _, hw, h => ⟨h.1, hQ _ _ (h.2 _ hw)⟩
  | fuel + 1, _, _, _, _, hT, hTS, hw, h => ⟨fun h0 => hQ _ _ (h.1 h0 _ hw), fun i hi => wpOp_of_lOp hT hTS hw (fun T' a' w' hT' hTS' h' hw' => wpAny_of_lAny hQ fuel _ T' a' w' hT' hTS' hw' h') (h.2 i hi)⟩

theorem bYields.lOp {T : World → Prop} {i : Nat} {o : Oper} {v : Value} {a : Act} (hi : ops[i]? = some o) (hy : bYields P ops S o v a) {K : (World → Prop) → Act → Prop} (h : K T (a.put o.dst v)) : lOp P ops S T i K a := by
  unfold Proofs.YtgnmolleaengaaaGreat.lOp
  simp only [hi]
  exact .inl ⟨v, hy, h⟩

theorem lOp_put {T : World → Prop} {j : Nat} {oi oj : Oper} {v : Value} (hj : ops[j]? = some oj) (hap : oi.apart ops oj = true)
    (hsi : ∀ cs b, oi.op ≠ .select cs b) (hsj : ∀ cs b, oj.op ≠ .select cs b) {K : (World → Prop) → Act → Prop} {a : Act}
    (hy : bYields P ops S oi v a) (h : lOp P ops S T j K (a.put oi.dst v)) :
    lOp P ops S T j (fun T' a' => bYields P ops S oi v a' ∧ K T' (a'.put oi.dst v)) a := by
  obtain ⟨h1, h2, h3⟩ := Oper.apart_spec hap
  have keep : ∀ (a : Act), bYields P ops S oi v a → ∀ u, bYields P ops S oi v (a.put oj.dst u) := fun a hy u =>
    hy.of_same (execOp_put oi hsi a oj.dst u h3) (wanted_put oi a oj.dst u h3)
  unfold lOp at *
  simp only [hj] at *
  rcases h with ⟨u, hu, hk⟩ | ⟨V, hs, hk⟩
  · exact .inl ⟨u, hu.of_same (execOp_put oj hsj a oi.dst v h1).symm (wanted_put oj a oi.dst v h1).symm, keep a hy u, by rw [← Act.put_comm a v u h2]; exact hk⟩
  · exact .inr ⟨V, hs.of_same (execOp_put oj hsj a oi.dst v h1).symm (wanted_put oj a oi.dst v h1).symm, fun u hu => ⟨keep a hy u, by rw [← Act.put_comm a v u h2]; exact hk u hu⟩⟩

theorem lAny_first {Q : Act → World → Prop} {i : Nat} {oi : Oper} {v : Value} (hi : ops[i]? = some oi) (hsel : ∀ (j : Nat) (o : Oper) cs b, ops[j]? = some o → o.op ≠ .select cs b) :
    ∀ (fuel : Nat) (listed : Array Bool) (T : World → Prop) (a : Act),
      (∀ j oj, ops[j]? = some oj → j ≠ i → listed.getD j true = false → (∀ e ∈ oj.after, Region.binds md e = true → e.on ≠ i) → oi.apart ops oj = true) →
      i ∈ Region.ready md ops listed → bYields P ops S oi v a →
      lAny P md ops S Q fuel (listed.setIfInBounds i true) T (a.put oi.dst v) → lAny P md ops S Q (fuel + 1) listed T a := by
  intro fuel
  induction fuel with
  | zero =>
    intro listed T a _ hr hy H
    refine ⟨fun h => (by rw [h] at hr; cases hr), fun j hj => ?_⟩
    by_cases hji : j = i
    · subst hji; exact hy.lOp hi H
    · have := ready_mono hj hji
      rw [H.1] at this
      cases this
  | succ fuel ih =>
    intro listed T a hfree hr hy H
    refine ⟨fun h => (by rw [h] at hr; cases hr), fun j hj => ?_⟩
    by_cases hji : j = i
    · subst hji; exact hy.lOp hi H
    · have h1 := H.2 j (ready_mono hj hji)
      obtain ⟨hjun, oj, hoj, hall⟩ := mem_ready.1 hj
      have hnot : ∀ e ∈ oj.after, Region.binds md e = true → e.on ≠ i := fun e he hb heq => by
        have h1 := hall e he hb
        have h0 := (mem_ready.1 hr).1
        rw [heq] at h1
        rw [getD_both h0] at h1
        cases h1
      have h2 := lOp_put hoj (hfree j oj hoj hji hjun hnot) (fun cs b => hsel i oi cs b hi) (fun cs b => hsel j oj cs b hoj) hy h1
      have hfree' : ∀ k ok, ops[k]? = some ok → k ≠ i → (listed.setIfInBounds j true).getD k true = false →
          (∀ e ∈ ok.after, Region.binds md e = true → e.on ≠ i) → oi.apart ops ok = true := fun k ok hk hki hun hno => by
        refine hfree k ok hk hki ?_ hno
        by_cases hjk : j = k
        · subst hjk; exact hjun
        · rw [getD_set_ne true hjk] at hun; exact hun
      refine lOp_mono (fun T' a' h3 => ih (listed.setIfInBounds j true) T' a' hfree' (ready_mono hr (Ne.symm hji)) h3.1 ?_) h2
      rw [Array.setIfInBounds_comm _ _ hji]
      exact h3.2

/-- the determined operations, one after the other, as written -/
def bRow (P : Program) (ops : Array Oper) (S : World → Prop) (Q : Act → Prop) : List Oper → Act → Prop
  | [], a => Q a
  | o :: rest, a => ∃ v, bYields P ops S o v a ∧ bRow P ops S Q rest (a.put o.dst v)

/-- the special operations, one after the other -/
def sRow (P : Program) (ops : Array Oper) (S : World → Prop) (Q : Act → World → Prop) : List Oper → (World → Prop) → Act → Prop
  | [], T, a => ∀ w, T w → Q a w
  | o :: rest, T, a => (∃ v, bYields P ops S o v a ∧ sRow P ops S Q rest T (a.put o.dst v)) ∨ (∃ V, sStep P ops S T o V a ∧ ∀ u, (∃ w, V u w) → sRow P ops S Q rest (V u) (a.put o.dst u))

theorem bRow_nil {Q : Act → Prop} {a : Act} (h : Q a) : bRow P ops S Q [] a := h
theorem bRow_step {Q : Act → Prop} {a : Act} {o : Oper} {rest : List Oper} (v : Value) (hw : Region.wanted o (yielded ops a.tmps) = true)
    (hv : ∀ w, S w → bUpon P v w ((execOp a.eval o).run P w)) (hk : ∀ K : Act → Prop, (∀ a, bRow P ops S Q rest a → K a) → K (a.put o.dst v)) : bRow P ops S Q (o :: rest) a :=
  ⟨v, .inl ⟨hw, hv⟩, hk _ (fun _ h => h)⟩
theorem bRow_plain {Q : Act → Prop} {a : Act} {o : Oper} {rest : List Oper} (v : Value) (hg : o.guard = none)
    (hv : ∀ w, S w → bUpon P v w ((execOp a.eval o).run P w)) (hk : ∀ K : Act → Prop, (∀ a, bRow P ops S Q rest a → K a) → K (a.put o.dst v)) : bRow P ops S Q (o :: rest) a :=
  ⟨v, .inl ⟨by simp [Region.wanted, hg], hv⟩, hk _ (fun _ h => h)⟩
theorem bRow_not {Q : Act → Prop} {a : Act} {o : Oper} {rest : List Oper} (hw : Region.wanted o (yielded ops a.tmps) = false)
    (hk : ∀ K : Act → Prop, (∀ a, bRow P ops S Q rest a → K a) → K (a.put o.dst undef)) : bRow P ops S Q (o :: rest) a :=
  ⟨undef, .inr ⟨hw, rfl⟩, hk _ (fun _ h => h)⟩

theorem sRow_nil {Q : Act → World → Prop} {T : World → Prop} {a : Act} (h : ∀ w, T w → Q a w) : sRow P ops S Q [] T a := h
theorem sRow_same {Q : Act → World → Prop} {T : World → Prop} {a : Act} {o : Oper} {rest : List Oper} (v : Value) (hg : o.guard = none)
    (hv : ∀ w, S w → bUpon P v w ((execOp a.eval o).run P w)) (hk : ∀ K : Act → Prop, (∀ a, sRow P ops S Q rest T a → K a) → K (a.put o.dst v)) : sRow P ops S Q (o :: rest) T a :=
  .inl ⟨v, .inl ⟨by simp [Region.wanted, hg], hv⟩, hk _ (fun _ h => h)⟩
theorem sRow_step {Q : Act → World → Prop} {T : World → Prop} {a : Act} {o : Oper} {rest : List Oper} (V : Value → World → Prop) (hg : o.guard = none) (h1 : ∀ u, Stable (V u)) (h2 : ∀ u w, V u w → S w)
    (hv : ∀ w, T w → sUpon P V ((execOp a.eval o).run P w)) (hk : ∀ u, (∃ w, V u w) → ∀ K : Act → Prop, (∀ a, sRow P ops S Q rest (V u) a → K a) → K (a.put o.dst u)) : sRow P ops S Q (o :: rest) T a :=
  .inr ⟨V, ⟨h1, h2, by simp [Region.wanted, hg], hv⟩, fun u hu => hk u hu _ (fun _ h => h)⟩

theorem lAny_of_seq {Q : Act → World → Prop} : ∀ (l : List Oper) (k : Nat) (listed : Array Bool) (T : World → Prop) (a : Act), (∀ j, l[j]? = ops[k + j]?) →
    Region.seqB md ops l.length k listed = true → sRow P ops S Q l T a → lAny P md ops S Q l.length listed T a
  | [], _, _, _, _, _, hB, h => ⟨by simpa [Region.seqB] using hB, h⟩
  | o :: l, k, listed, T, a, hl, hB, h => by
    have h0 : ops[k]? = some o := by simpa using (hl 0).symm
    simp only [List.length_cons, Region.seqB, Bool.and_eq_true, decide_eq_true_eq] at hB
    refine ⟨fun h1 => (by rw [hB.1] at h1; cases h1), fun i hi => ?_⟩
    rw [hB.1] at hi
    have hik : i = k := by simpa using hi
    subst hik
    have hw : lOp P ops S T i (sRow P ops S Q l) a := by unfold lOp; simp only [h0]; exact h
    exact lOp_mono (fun T' a' h' => lAny_of_seq l (i + 1) _ T' a' (fun j => by have := hl (j + 1); simpa [Nat.add_assoc, Nat.add_comm 1 j] using this) hB.2 h') hw

theorem lAny_lex {Q : Act → World → Prop} {T : World → Prop} {tl : List Oper} (hsel : Region.noSelect ops = true) : ∀ (l : List Oper) (k : Nat) (listed : Array Bool) (a : Act), (∀ j, (l ++ tl)[j]? = ops[k + j]?) →
    Region.lexHead md ops tl.length l.length k listed = true → bRow P ops S (fun a => sRow P ops S Q tl T a) l a → lAny P md ops S Q (l.length + tl.length) listed T a
  | [], k, listed, a, hl, hB, h => by
    have := lAny_of_seq (md := md) (P := P) (S := S) (Q := Q) tl k listed T a (fun j => by simpa using hl j) (by simpa [Region.lexHead] using hB) h
    simpa using this
  | o :: l, k, listed, a, hl, hB, h => by
    have h0 : ops[k]? = some o := by simpa using (hl 0).symm
    simp only [List.length_cons, Region.lexHead, Bool.and_eq_true] at hB
    obtain ⟨⟨hr, hf⟩, hB'⟩ := hB
    have hr' : k ∈ Region.ready md ops listed := by simpa using hr
    obtain ⟨v, hy, hK⟩ := h
    have IH := lAny_lex (T := T) hsel l (k + 1) (listed.setIfInBounds k true) (a.put o.dst v) (fun j => by have := hl (j + 1); simpa [Nat.add_assoc, Nat.add_comm 1 j] using this) hB' hK
    have := lAny_first h0 (Region.noSelect_spec hsel) (l.length + tl.length) listed T a (Region.free_spec h0 hf) hr' hy IH
    rw [show (o :: l).length + tl.length = l.length + tl.length + 1 by simp; omega]
    exact this

def lateB (ops : Array Oper) (n : Nat) : Bool := Region.noSelect ops && decide (n ≤ ops.size) && Region.lexHead .any ops (ops.size - n) n 0 (Array.replicate ops.size false)

theorem wp_region_late {id : Nat} {Q : Exit → Act → World → Prop} {a : Act} {w : World} {l : List Oper} (S : World → Prop) (n : Nat) (hm : P.follows .mixedOrders = true) (hB : lateB l.toArray n = true)
    (hSt : Stable S) (hS : S w) (h : bRow P l.toArray S (fun a' => sRow P l.toArray S (fun a w => Q .normal a w) (l.drop n) S a') (l.take n) a) : (Code.region id l.toArray true).wp P Q a w := by
  simp only [lateB, Bool.and_eq_true, decide_eq_true_eq] at hB
  obtain ⟨⟨hsel, hn⟩, hlex⟩ := hB
  have hn' : n ≤ l.length := by simpa using hn
  have htl : (l.take n).length = n := by simp; omega
  have hdl : (l.drop n).length = l.toArray.size - n := by simp
  have H := lAny_lex (md := .any) (Q := fun a w => Q .normal a w) (T := S) (tl := l.drop n) hsel (l.take n) 0 (Array.replicate l.toArray.size false) a (fun j => by simp) (by rw [htl, hdl]; exact hlex) h
  refine wp_region_any hm ?_
  have hS1 : S { w with drawn := w.drawn + 1 } := hSt _ _ hS (Below.refl _ _).drew
  have := wpAny_of_lAny (Q' := Q) (fun _ _ h => h) _ _ _ _ _ hSt (fun _ h => h) hS1 H
  rw [htl, hdl, show n + (l.toArray.size - n) = l.toArray.size by simp; omega] at this
  exact this
end

attribute [go_sem] bUpon sUpon


section
variable {P : Program} {ops : Array Oper} {md : Region.Mode} {S : World → Prop}

/-- an order of the operations: those marked false are determined and free, those marked true are the only ones ready -/
def orderB (md : Region.Mode) (ops : Array Oper) : List (Nat × Bool) → Array Bool → Bool
  | [], listed => Region.ready md ops listed == []
  | (i, sp) :: is, listed => (if sp then Region.ready md ops listed == [i] else (Region.ready md ops listed).contains i && Region.free md ops listed i) && orderB md ops is (listed.setIfInBounds i true)

def oRow (P : Program) (ops : Array Oper) (S : World → Prop) (Q : Act → World → Prop) : List (Nat × Bool) → (World → Prop) → Act → Prop
  | [], T, a => ∀ w, T w → Q a w
  | (i, false) :: is, T, a => ∃ o, ops[i]? = some o ∧ ∃ v, bYields P ops S o v a ∧ oRow P ops S Q is T (a.put o.dst v)
  | (i, true) :: is, T, a => ∃ o, ops[i]? = some o ∧ ∃ V, sStep P ops S T o V a ∧ ∀ u, (∃ w, V u w) → oRow P ops S Q is (V u) (a.put o.dst u)

theorem lAny_order {Q : Act → World → Prop} (hsel : Region.noSelect ops = true) : ∀ (is : List (Nat × Bool)) (listed : Array Bool) (T : World → Prop) (a : Act),
    orderB md ops is listed = true → oRow P ops S Q is T a → lAny P md ops S Q is.length listed T a
  | [], listed, T, a, hB, h => ⟨by simpa [orderB] using hB, h⟩
  | (i, false) :: is, listed, T, a, hB, ⟨o, h0, v, hy, h⟩ => by
    simp only [orderB, Bool.false_eq_true, if_false, Bool.and_eq_true] at hB
    obtain ⟨⟨hr, hf⟩, hB'⟩ := hB
    exact lAny_first h0 (Region.noSelect_spec hsel) is.length listed T a (Region.free_spec h0 hf) (by simpa using hr) hy (lAny_order hsel is _ T _ hB' h)
  | (i, true) :: is, listed, T, a, hB, ⟨o, h0, V, hs, h⟩ => by
    simp only [orderB, if_true, Bool.and_eq_true, beq_iff_eq] at hB
    obtain ⟨hr, hB'⟩ := hB
    refine ⟨fun e => (by rw [hr] at e; cases e), fun j hj => ?_⟩
    rw [hr] at hj
    have hji : j = i := by simpa using hj
    subst hji
    unfold lOp
    simp only [h0]
    exact .inr ⟨V, hs, fun u hu => lAny_order hsel is _ (V u) _ hB' (h u hu)⟩

theorem wp_region_order {id : Nat} {Q : Exit → Act → World → Prop} {a : Act} {w : World} {l : List Oper} (S T : World → Prop) (is : List (Nat × Bool)) (hm : P.follows .mixedOrders = true) (hsel : Region.noSelect l.toArray = true) (hlen : is.length = l.length)
    (hB : orderB .any l.toArray is (Array.replicate l.toArray.size false) = true) (hSt : Stable T) (hTS : ∀ w, T w → S w) (hS : T w)
    (h : oRow P l.toArray S (fun a w => Q .normal a w) is T a) : (Code.region id l.toArray true).wp P Q a w := by
  have H := lAny_order (md := .any) (P := P) (Q := fun a w => Q .normal a w) hsel is (Array.replicate l.toArray.size false) T a hB h
  refine wp_region_any hm ?_
  have hS1 : T { w with drawn := w.drawn + 1 } := hSt _ _ hS (Below.refl _ _).drew
  have := wpAny_of_lAny (Q' := Q) (fun _ _ h => h) _ _ _ _ _ hSt hTS hS1 H
  rw [hlen, show l.length = l.toArray.size by simp] at this
  exact this

theorem oRow_nil {Q : Act → World → Prop} {T : World → Prop} {a : Act} (h : ∀ w, T w → Q a w) : oRow P ops S Q [] T a := h
theorem oRow_plain {Q : Act → World → Prop} {T : World → Prop} {a : Act} {i : Nat} {o : Oper} {is : List (Nat × Bool)} (v : Value) (hi : ops[i]? = some o) (hg : o.guard = none)
    (hv : ∀ w, S w → bUpon P v w ((execOp a.eval o).run P w)) (hk : ∀ K : Act → Prop, (∀ a, oRow P ops S Q is T a → K a) → K (a.put o.dst v)) : oRow P ops S Q ((i, false) :: is) T a :=
  ⟨o, hi, v, .inl ⟨by simp [Region.wanted, hg], hv⟩, hk _ (fun _ h => h)⟩
theorem oRow_step {Q : Act → World → Prop} {T : World → Prop} {a : Act} {i : Nat} {o : Oper} {is : List (Nat × Bool)} (V : Value → World → Prop) (hi : ops[i]? = some o) (hg : o.guard = none) (h1 : ∀ u, Stable (V u)) (h2 : ∀ u w, V u w → S w)
    (hv : ∀ w, T w → sUpon P V ((execOp a.eval o).run P w)) (hk : ∀ u, (∃ w, V u w) → ∀ K : Act → Prop, (∀ a, oRow P ops S Q is (V u) a → K a) → K (a.put o.dst u)) : oRow P ops S Q ((i, true) :: is) T a :=
  ⟨o, hi, V, ⟨h1, h2, by simp [Region.wanted, hg], hv⟩, fun u hu => hk u hu _ (fun _ h => h)⟩
end


end Go.Proofs.YtgnmolleaengaaaGreat
