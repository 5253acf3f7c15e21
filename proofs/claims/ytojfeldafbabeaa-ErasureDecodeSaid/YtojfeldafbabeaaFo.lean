/- Slices of fragments that append built. -/
import Derived.Test.YtojfeldafbabeaaAw
import Derived.Test.YtojfeldafbabeaaPw
set_option linter.unusedVariables false
set_option linter.unusedSimpArgs false
set_option linter.unnecessarySimpa false
namespace Go.Proofs.Ytojfeldafbabeaa
open Go.RowKit Go.Mem Go.Deep

theorem info36 : (Try.prog.info? 36).map (fun i => (i.zero, i.size, i.bytes)) = some (some (.agg #[.int .i64 0, .slice none 0 0]), 2, 32) := by kernel_rfl

def flatF (n : Nat) (xs : Nat → Int) (ys : Nat → Value) : List Value := (List.range n).flatMap fun i => [.int .i64 (xs i), ys i]
theorem flatF_len (n : Nat) (xs : Nat → Int) (ys : Nat → Value) : (flatF n xs ys).length = n * 2 := by
  induction n with
  | zero => rfl
  | succ n ih => unfold flatF at *; rw [List.range_succ, List.flatMap_append]; simp [ih]; omega
theorem flatF_get (n : Nat) (xs : Nat → Int) (ys : Nat → Value) (i : Nat) (h : i < n) : (flatF n xs ys)[i * 2]? = some (.int .i64 (xs i)) ∧ (flatF n xs ys)[i * 2 + 1]? = some (ys i) := by
  induction n with
  | zero => omega
  | succ n ih =>
    have e : flatF (n + 1) xs ys = flatF n xs ys ++ [.int .i64 (xs n), ys n] := by unfold flatF; rw [List.range_succ, List.flatMap_append]; simp
    have hl := flatF_len n xs ys
    rw [e]
    by_cases q : i < n
    · rw [List.getElem?_append_left (by omega), List.getElem?_append_left (by omega)]
      exact ih q
    · have : i = n := by omega
      subst this
      rw [List.getElem?_append_right (by omega), List.getElem?_append_right (by omega), hl]
      simp
theorem flatF_congr {n : Nat} {xs xs' : Nat → Int} {ys ys' : Nat → Value} (h : ∀ i, i < n → xs i = xs' i ∧ ys i = ys' i) : flatF n xs ys = flatF n xs' ys' := by
  induction n with
  | zero => rfl
  | succ n ih =>
    unfold flatF at *
    rw [List.range_succ, List.flatMap_append, List.flatMap_append, ih (fun i hi => h i (by omega))]
    simp [(h n (by omega)).1, (h n (by omega)).2]

structure FragsO (w : World) (B : Nat) (v : Value) (ys : Nat → Value) (fs : List Frag) : Prop where
  outer : w.ownsRow B 36 2 v fs.length (flatF fs.length (fun i => (fragD fs i).1) ys)
  inner : ∀ i, i < fs.length → Kept w B 5 (ys i) (fragD fs i).2
namespace FragsO
variable {w w' : World} {B : Nat} {v v' : Value} {ys : Nat → Value} {fs : List Frag}
theorem nil (w : World) (B : Nat) (ys : Nat → Value) : FragsO w B (.slice none 0 0) ys [] := ⟨World.ownsRow_nil _ _ _ _, fun i hi => by simp at hi⟩
theorem below (h : FragsO w B v ys fs) (hb : Below w.heap.size w w') : FragsO w' B v ys fs := ⟨ownsRow_of_below h.outer hb, fun i hi => (h.inner i hi).below hb⟩
theorem push (h : FragsO w B v ys fs) {x : Int} {y : Value} {l : List Nat} (hy : Kept w B 5 y l) (ho : w'.ownsRow B 36 2 v' (fs.length + 1) (flatF fs.length (fun i => (fragD fs i).1) ys ++ [.int .i64 x, y])) (hg : w.grownBy w' v.ownBlock) :
    FragsO w' B v' (fun i => if i = fs.length then y else ys i) (fs ++ [(x, l)]) := by
  have hD : ∀ i, i < fs.length → fragD (fs ++ [(x, l)]) i = fragD fs i := fun i hi => by unfold fragD; simp [List.getElem?_append_left hi]
  have hD2 : fragD (fs ++ [(x, l)]) fs.length = (x, l) := by unfold fragD; simp
  refine ⟨?_, fun i hi => ?_⟩
  · have e : flatF (fs ++ [(x, l)]).length (fun i => (fragD (fs ++ [(x, l)]) i).1) (fun i => if i = fs.length then y else ys i) = flatF fs.length (fun i => (fragD fs i).1) ys ++ [.int .i64 x, y] := by
      rw [List.length_append]
      show flatF (fs.length + 1) _ _ = _
      have : ∀ xs ys', flatF (fs.length + 1) xs ys' = flatF fs.length xs ys' ++ [.int .i64 (xs fs.length), ys' fs.length] := fun xs ys' => by unfold flatF; rw [List.range_succ, List.flatMap_append]; simp
      rw [this, hD2]
      simp only [if_true]
      congr 1
      exact flatF_congr fun i hi => ⟨by rw [hD i hi], by rw [if_neg (by omega)]⟩
    rw [e]
    simpa using ho
  · simp at hi
    by_cases q : i = fs.length
    · subst q
      rw [hD2]
      simp only [if_true]
      exact hy.grown h.outer (by decide) hg
    · rw [hD i (by omega), if_neg q]
      exact (h.inner i (by omega)).grown h.outer (by decide) hg
theorem frags (h : FragsO w B v ys fs) (hn : fs.length ≤ 1000) : Frags w v fs := by
  rcases h.outer.2 with ⟨rfl, h0⟩ | ⟨g, cap, cur, rfl, _, hg, h1, h2, h3, h4⟩
  · have : fs = [] := List.eq_nil_of_length_eq_zero h0
    subst this
    exact Frags.nil w
  · refine ⟨some ⟨g, 0, none⟩, cap, rfl, by omega, fun i hi => ?_⟩
    have hgl := (Array.getElem?_eq_some_iff.1 hg).1
    obtain ⟨e1, e2⟩ := flatF_get fs.length (fun i => (fragD fs i).1) ys i hi
    rw [← h4, List.getElem?_take, if_pos (by omega)] at e1 e2
    refine ⟨g, 0, ys i, rfl, hgl, ?_, ?_, (h.inner i hi).1⟩
    · simp only [World.cell?, hg, Nat.zero_add]
      simpa using e1
    · simp only [World.cell?, hg, Nat.zero_add]
      simpa using e2
end FragsO

/-- one fragment appended -/
theorem app_frag {ops : Array Oper} {rest : List Oper} {o : Oper} {a : Act} {Q : Exit → Act → World → Prop} (hgd : o.guard = none) (s x : Operand)
    (ho : o.op = .call { callee := .builtin .append, args := #[s, x], argTypes := #[34, 34] }) {w0 W : World} {B b0 : Nat} {v y : Value} {ys : Nat → Value} {fs : List Frag} {l : List Nat} {i : Int} (n : Nat)
    (h : FragsO W B v ys fs) (hl : fs.length = n) (hn : n ≤ 1000) (hy : Kept W B 5 y l) (hb : Below B w0 W) (hB : B ≤ W.heap.size) (hb0 : b0 = W.heap.size) (hs : a.eval s = v) (hx : a.eval x = .slice (some ⟨b0, 0, none⟩) 1 1)
    (hK : ∀ v' w', Hid (FragsO w' B v' (fun i => if i = n then y else ys i) (fs ++ [(i, l)]) ∧ Below B w0 w' ∧ ∀ (g : Nat) (t : TypeId) (c : Array Value), W.heap[g]? = some (Obj.cells c t (0, 0)) → t ≠ 36 → w'.heap[g]? = some (Obj.cells c t (0, 0))) → wpList Try.prog ops Q rest (a.put o.dst v') w') :
    wpList Try.prog ops Q (o :: rest) a (W.alloc (.cells #[.int .i64 i, y] 36)) := by
  obtain ⟨i36, hi, hz0, hz1, hz2⟩ := info_parts info36
  subst hl hb0
  obtain ⟨ya, ycap, rfl, _⟩ := hy.1.open
  refine wpList_append_own _ hgd s x 34 ho B 36 i36 (.agg #[.int .i64 0, .slice none 0 0]) 2 32 Try.underlying34 hi hz0 hz1 hz2 rfl (by decide) v fs.length _ hs (h.outer.alloc _) ⟨W.heap.size, 0, none⟩ 1 1 [.int .i64 i, .slice ya l.length ycap] hx rfl (by
      intro j u hj
      match j, hj with
      | 0, hj => simp at hj; subst hj; simp [Addr.add]
      | 1, hj => simp at hj; subst hj; simp [Addr.add]
      | j + 2, hj => simp at hj) (by intro u hu; simp at hu; rcases hu with rfl | rfl <;> rfl) (by unfold maxLen; omega) (by omega) (by simp; omega) ?_
  intro v' w' h2 h3 _
  have hb1 : Below W.heap.size W (W.alloc (.cells #[.int .i64 i, .slice ya l.length ycap] 36)) := (Below.refl _ _).alloc (Nat.le_refl _) _
  refine hK v' w' (show _ ∧ _ from ⟨(h.below hb1).push (hy.below hb1) h2 h3, (hb.alloc hB _).grown h3 (by simp; omega) (fun b hb => (h.outer.lt b hb).1), fun g t c hc ht => ?_⟩)
  have hlt : g < W.heap.size := (Array.getElem?_eq_some_iff.1 hc).1
  have hc2 : (W.alloc (.cells #[.int .i64 i, .slice ya l.length ycap] 36)).heap[g]? = some (.cells c t (0, 0)) := (hb1.block g hlt).trans hc
  refine (h3.block g (by simp; omega) (fun q => ?_)).trans hc2
  rcases (h.below hb1).outer.2 with ⟨rfl, _⟩ | ⟨g', cap, cur, rfl, _, hg, _⟩
  · simp [Value.ownBlock] at q
  · simp [Value.ownBlock] at q
    subst q
    rw [hc2] at hg
    cases hg
    exact ht rfl
end Go.Proofs.Ytojfeldafbabeaa
