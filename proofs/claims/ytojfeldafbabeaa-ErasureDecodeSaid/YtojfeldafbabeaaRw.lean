/- Slices of rows that append built: the outer slice in a block of its own, each row in a block that the outer slice's appends leave alone. -/
import Derived.Test.YtojfeldafbabeaaOwo
set_option linter.unusedVariables false
set_option linter.unusedSimpArgs false
set_option linter.unnecessarySimpa false
namespace Go.Mem
open Go.RowKit Go.Deep

/-- a slice of bytes in a block that came in (below B), or whose elements have type e -/
def Kept (w : World) (B : Nat) (e : TypeId) (v : Value) (l : List Nat) : Prop :=
  Bytes w v l ∧ (l = [] ∨ ∃ b off cap, v = .slice (some ⟨b, off, none⟩) l.length cap ∧ b < w.heap.size ∧ (b < B ∨ ∃ c f, w.heap[b]? = some (.cells c e f)))

theorem Bytes.of_block {w w' : World} {b off cap : Nat} {l : List Nat} (h : Bytes w (.slice (some ⟨b, off, none⟩) l.length cap) l) (e : w'.heap[b]? = w.heap[b]?) (hs : w.heap.size ≤ w'.heap.size) : Bytes w' (.slice (some ⟨b, off, none⟩) l.length cap) l := by
  obtain ⟨⟨a, cap', q, h1, h2, h4, h3⟩, hl⟩ := h
  rw [len_u8s] at q
  cases q
  refine ⟨⟨_, _, by rw [len_u8s], h1, h2, h4, ?_⟩, hl⟩
  rcases h3 with h3 | ⟨b', off', q, hb, hc⟩
  · exact .inl h3
  · cases q
    exact .inr ⟨b, off, rfl, by omega, fun i hi => by rw [World.cell?_of_block (a := ⟨b, off + i, none⟩) e]; exact hc i hi⟩
theorem Bytes.empty_any {w w' : World} {v : Value} (h : Bytes w v []) : Bytes w' v [] := by
  obtain ⟨⟨a, cap', q, h1, h2, h4, h3⟩, hl⟩ := h
  exact ⟨⟨a, cap', q, h1, h2, h4, .inl rfl⟩, hl⟩

namespace Kept
variable {w w' : World} {B : Nat} {e : TypeId} {v : Value} {l : List Nat}
theorem below (h : Kept w B e v l) (hb : Below w.heap.size w w') : Kept w' B e v l := by
  refine ⟨h.1.below hb (Nat.le_refl _), ?_⟩
  rcases h.2 with h2 | ⟨b, off, cap, q, hlt, h2⟩
  · exact .inl h2
  · refine .inr ⟨b, off, cap, q, Nat.lt_of_lt_of_le hlt hb.size, ?_⟩
    rcases h2 with h2 | ⟨c, f, h2⟩
    · exact .inl h2
    · exact .inr ⟨c, f, by rw [hb.block b hlt]; exact h2⟩
/-- the block of an own row of another element type has changed -/
theorem grown (h : Kept w B e v l) {e2 : TypeId} {size n : Nat} {u : Value} {xs : List Value} (ho : w.ownsRow B e2 size u n xs) (he : e ≠ e2) (hg : w.grownBy w' u.ownBlock) : Kept w' B e v l := by
  obtain ⟨h1, h2⟩ := h
  rcases h2 with rfl | ⟨b, off, cap, rfl, hlt, h2⟩
  · exact ⟨h1.empty_any, .inl rfl⟩
  · have hne : some b ≠ u.ownBlock := by
      intro q
      rcases ho.2 with ⟨rfl, _⟩ | ⟨g, cap, cur, rfl, hB, hgb, _⟩
      · simp [Value.ownBlock] at q
      · simp [Value.ownBlock] at q
        subst q
        rcases h2 with h2 | ⟨c, f, h2⟩
        · omega
        · rw [h2] at hgb
          cases hgb
          exact he rfl
    have hblk := hg.block b hlt hne
    refine ⟨h1.of_block hblk hg.size, .inr ⟨b, off, cap, rfl, Nat.lt_of_lt_of_le hlt hg.size, ?_⟩⟩
    rcases h2 with h2 | ⟨c, f, h2⟩
    · exact .inl h2
    · exact .inr ⟨c, f, hblk.trans h2⟩
/-- a row that came in -/
theorem came {w0 : World} (h : Bytes w0 v l) (hb : Below w0.heap.size w0 w) (hB : w0.heap.size ≤ B) : Kept w B e v l := by
  refine ⟨h.below hb (Nat.le_refl _), ?_⟩
  obtain ⟨⟨a, cap, rfl, h1, h2, h4, h3⟩, hl⟩ := h
  rcases h3 with h3 | ⟨b, off, rfl, hlt, hc⟩
  · exact .inl (by simpa [u8s] using h3)
  · exact .inr ⟨b, off, cap, by rw [len_u8s], Nat.lt_of_lt_of_le hlt hb.size, .inl (by omega)⟩
theorem fresh (h : Bytes w v l) {b n cap : Nat} {c : Array Value} (hv : v = .slice (some ⟨b, 0, none⟩) n cap) (hc : w.heap[b]? = some (.cells c e (0, 0))) : Kept w B e v l := by
  subst hv
  refine ⟨h, .inr ⟨b, 0, cap, ?_, (Array.getElem?_eq_some_iff.1 hc).1, .inr ⟨_, _, hc⟩⟩⟩
  obtain ⟨⟨a, cap', q, h1, h2, h4, h3⟩, hl⟩ := h
  rw [len_u8s] at q
  cases q
  rfl
theorem drew (h : Kept w B e v l) : Kept w.drew B e v l := h
theorem wider (h : Kept w B e v l) {B' : Nat} (hB : B ≤ B') : Kept w B' e v l := by
  refine ⟨h.1, ?_⟩
  rcases h.2 with h2 | ⟨b, off, cap, q, hlt, h2⟩
  · exact .inl h2
  · exact .inr ⟨b, off, cap, q, hlt, h2.imp (fun x => by omega) id⟩
end Kept

theorem ownsRow_of_below {w w' : World} {B : Nat} {e : TypeId} {size n : Nat} {v : Value} {xs : List Value} (h : w.ownsRow B e size v n xs) (hb : Below w.heap.size w w') : w'.ownsRow B e size v n xs :=
  ⟨h.1, by
    rcases h.2 with hh | ⟨g, cap, cur, hv, hB, hg, r⟩
    · exact .inl hh
    · exact .inr ⟨g, cap, cur, hv, hB, by rw [hb.block g (Array.getElem?_eq_some_iff.1 hg).1]; exact hg, r⟩⟩

/-- a slice of rows that the call built: v; its cells vs; its rows -/
structure RowsO (w : World) (B : Nat) (eo e : TypeId) (v : Value) (vs : List Value) (rows : List (List Nat)) : Prop where
  outer : w.ownsRow B eo 1 v rows.length vs
  inner : ∀ i, i < rows.length → Kept w B e (vs.getD i undef) (rows.getD i [])

namespace RowsO
variable {w w' : World} {B : Nat} {eo e : TypeId} {v v' : Value} {vs : List Value} {rows : List (List Nat)}
theorem nil (w : World) (B : Nat) (eo e : TypeId) : RowsO w B eo e (.slice none 0 0) [] [] := ⟨World.ownsRow_nil _ _ _ _, fun i hi => by simp at hi⟩
theorem made (h : w.ownsRow B eo 1 v 0 []) (e : TypeId) : RowsO w B eo e v [] [] := ⟨h, fun i hi => by simp at hi⟩
theorem len (h : RowsO w B eo e v vs rows) : vs.length = rows.length := by have := h.outer.1; omega
theorem below (h : RowsO w B eo e v vs rows) (hb : Below w.heap.size w w') : RowsO w' B eo e v vs rows := ⟨ownsRow_of_below h.outer hb, fun i hi => (h.inner i hi).below hb⟩
theorem push (h : RowsO w B eo e v vs rows) (he : e ≠ eo) {n : Nat} {x : Value} {l : List Nat} (hn : rows.length = n) (hx : Kept w B e x l) (ho : w'.ownsRow B eo 1 v' (n + 1) (vs ++ [x])) (hg : w.grownBy w' v.ownBlock) : RowsO w' B eo e v' (vs ++ [x]) (rows ++ [l]) := by
  subst hn
  refine ⟨by simpa using ho, fun i hi => ?_⟩
  have hl := h.len
  simp at hi
  by_cases q : i < rows.length
  · have := (h.inner i q).grown h.outer he hg
    simpa [List.getElem?_append_left q, List.getElem?_append_left (show i < vs.length by omega)] using this
  · have : i = rows.length := by omega
    subst this
    have := hx.grown h.outer he hg
    simpa [List.getElem?_append_right (show vs.length ≤ rows.length by omega), hl] using this
theorem mat (h : RowsO w B eo e v vs rows) (hs : rows.length ≤ 140737488351232) : Mat w v rows := by
  have hl := h.len
  have hcells : Elems w v vs := by
    rcases h.outer.2 with ⟨rfl, h0⟩ | ⟨g, cap, cur, rfl, hB, hg, h1, h2, h3, h4⟩
    · have : vs = [] := List.eq_nil_of_length_eq_zero (by omega)
      subst this
      exact ⟨none, 0, rfl, Nat.le_refl _, by simp [maxLen], by decide, .inl rfl⟩
    · refine ⟨some ⟨g, 0, none⟩, cap, by rw [hl], by omega, h2, by omega, .inr ⟨g, 0, rfl, (Array.getElem?_eq_some_iff.1 hg).1, fun i hi => ?_⟩⟩
      simp only [Nat.mul_one] at h3 h4
      rw [← h4]
      simp [World.cell?, hg, List.getElem?_take, show i < rows.length by omega]
  refine ⟨vs, hcells, hl, fun i x r hx hr => ?_⟩
  have hi : i < rows.length := by
    rcases Nat.lt_or_ge i rows.length with h | h
    · exact h
    · rw [List.getElem?_eq_none h] at hr; cases hr
  have := (h.inner i hi).1
  simpa [hx, hr] using this
theorem drew (h : RowsO w B eo e v vs rows) : RowsO w.drew B eo e v vs rows := ⟨h.outer, h.inner⟩
end RowsO
/-- block g changed; the row is elsewhere -/
theorem Kept.beside {w w' : World} {B g : Nat} {e e2 : TypeId} {v : Value} {l : List Nat} {c2 : Array Value} {f2 : Nat × Nat} (h : Kept w B e v l) (hg : B ≤ g) (hc : w.heap[g]? = some (.cells c2 e2 f2)) (he : e ≠ e2)
    (hb : ∀ b, b ≠ g → w'.heap[b]? = w.heap[b]?) (hs : w.heap.size ≤ w'.heap.size) : Kept w' B e v l := by
  obtain ⟨h1, h2⟩ := h
  rcases h2 with rfl | ⟨b, off, cap, rfl, hlt, h2⟩
  · exact ⟨h1.empty_any, .inl rfl⟩
  · have hne : b ≠ g := by
      intro q
      subst q
      rcases h2 with h2 | ⟨c, f, h2⟩
      · omega
      · rw [h2] at hc
        cases hc
        exact he rfl
    have hblk := hb b hne
    refine ⟨h1.of_block hblk hs, .inr ⟨b, off, cap, rfl, Nat.lt_of_lt_of_le hlt hs, ?_⟩⟩
    rcases h2 with h2 | ⟨c, f, h2⟩
    · exact .inl h2
    · exact .inr ⟨c, f, hblk.trans h2⟩

/-- a slice of n rows at block R, of which the first j are laid -/
structure RowsF (w : World) (R : Nat) (eo e : TypeId) (n j : Nat) (vs : Nat → Value) (rows : Nat → List Nat) : Prop where
  outer : w.rowIs R eo n (fun i => if i < j then vs i else .slice none 0 0)
  inner : ∀ i, i < j → Kept w R e (vs i) (rows i)
namespace RowsF
variable {w w' : World} {R n j : Nat} {eo e : TypeId} {vs : Nat → Value} {rows : Nat → List Nat}
theorem made (w : World) (n : Nat) (eo e : TypeId) (vs : Nat → Value) (rows : Nat → List Nat) : RowsF (w.alloc (.cells (madeCells #[.slice none 0 0] n) eo)) w.heap.size eo e n 0 vs rows :=
  ⟨(World.rowIs_made w (.slice none 0 0) n eo).congr (fun i _ => by simp), fun i hi => by omega⟩
theorem below (h : RowsF w R eo e n j vs rows) (hb : Below w.heap.size w w') : RowsF w' R eo e n j vs rows := ⟨h.outer.of_block (hb.block _ h.outer.lt), fun i hi => (h.inner i hi).below hb⟩
theorem set (h : RowsF w R eo e n j vs rows) (he : e ≠ eo) {y : Value} (hy : Kept w R e y (rows j)) : RowsF (w.setCell ⟨R, j, none⟩ y) R eo e n (j + 1) (fun i => if i = j then y else vs i) rows := by
  obtain ⟨c, hc, _⟩ := h.outer
  have hb : ∀ b, b ≠ R → (w.setCell ⟨R, j, none⟩ y).heap[b]? = w.heap[b]? := fun b hb => blk_setCell_other _ _ _ _ hb
  refine ⟨(h.outer.set j y).congr fun i _ => ?_, fun i hi => ?_⟩
  · by_cases q : i = j
    · subst q; simp
    · by_cases q2 : i < j
      · simp [q, q2, show i < j + 1 by omega]
      · simp [q, q2, show ¬ i < j + 1 by omega]
  · by_cases q : i = j
    · subst q
      simp only [if_true]
      exact hy.beside (Nat.le_refl _) hc he hb (by simp)
    · simp only [q, if_false]
      exact (h.inner i (by omega)).beside (Nat.le_refl _) hc he hb (by simp)
theorem mat (h : RowsF w R eo e n n vs rows) (hm : n ≤ maxLen) (hs : n ≤ 140737488351232) : Mat w (.slice (some ⟨R, 0, none⟩) n n) ((List.range n).map rows) := by
  refine ⟨(List.range n).map vs, ⟨some ⟨R, 0, none⟩, n, by simp, by simp, hm, by simpa using hs, .inr ⟨R, 0, rfl, h.outer.lt, fun i hi => ?_⟩⟩, by simp, fun i x r hx hr => ?_⟩
  · have hi' : i < n := by simpa using hi
    rw [Nat.zero_add, h.outer.cell hi']
    simp [hi']
  · have hi : i < n := by
      rcases Nat.lt_or_ge i n with h | h
      · exact h
      · rw [List.getElem?_eq_none (by simpa using h)] at hx; cases hx
    simp [hi] at hx hr
    subst hx; subst hr
    exact (h.inner i hi).1
theorem lt (h : RowsF w R eo e n j vs rows) : R < w.heap.size := h.outer.lt
end RowsF
/-- a block of another element type has changed -/
theorem RowsO.beside {w w' : World} {B g : Nat} {eo e e2 : TypeId} {v : Value} {vs : List Value} {rows : List (List Nat)} {c2 : Array Value} {f2 : Nat × Nat} (h : RowsO w B eo e v vs rows) (hg : B ≤ g) (hc : w.heap[g]? = some (.cells c2 e2 f2)) (he : e ≠ e2) (ho : eo ≠ e2)
    (hb : ∀ b, b ≠ g → w'.heap[b]? = w.heap[b]?) (hs : w.heap.size ≤ w'.heap.size) : RowsO w' B eo e v vs rows := by
  refine ⟨⟨h.outer.1, ?_⟩, fun i hi => (h.inner i hi).beside hg hc he hb hs⟩
  rcases h.outer.2 with hh | ⟨b, cap, cur, hv, hB, hgb, r⟩
  · exact .inl hh
  · refine .inr ⟨b, cap, cur, hv, hB, ?_, r⟩
    rw [hb b (fun q => by subst q; rw [hc] at hgb; cases hgb; exact ho rfl)]
    exact hgb
end Go.Mem
