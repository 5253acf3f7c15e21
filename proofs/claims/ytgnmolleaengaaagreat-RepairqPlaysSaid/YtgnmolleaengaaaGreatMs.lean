/- Frames: only the blocks of S and new ones may turn; a list of own blocks with what they hold, kept through calls, allocations, stores and turns of the blocks of S. -/
import Derived.Below
import Derived.Laws.NewBlocks
import Derived.Lib.Hide
import Derived.Test.YtgnmolleaengaaaGreatRows
set_option linter.unusedVariables false
set_option linter.unusedSimpArgs false
set_option linter.unnecessarySimpa false
namespace Go.Proofs.YtgnmolleaengaaaGreat
open Go Go.RowKit

/-- a block no string shares -/
def Thaw (w : World) (b : Nat) : Prop := ∀ i, w.frozen? ⟨b, i, none⟩ = false
theorem thaw_new (w : World) (c : Array Value) (t : TypeId) : Thaw (w.alloc (.cells c t)) w.heap.size := fun i => World.frozen?_alloc_at (hn := rfl) ..
theorem Thaw.below {w w' : World} {b B : Nat} (h : Thaw w b) (hb : Below B w w') (hB : b < B) : Thaw w' b := fun i => (hb.frozen (p := ⟨b, i, none⟩) hB).trans (h i)
theorem Thaw.setCell {w : World} {b : Nat} (h : Thaw w b) (a : Addr) (v : Value) : Thaw (w.setCell a v) b := fun i => (World.frozen?_setCell ..).trans (h i)
theorem Thaw.same {w w' : World} {b : Nat} (h : Thaw w b) (e : w'.heap[b]? = w.heap[b]?) : Thaw w' b := fun i => (World.frozen?_of_block (w := w) (a := ⟨b, i, none⟩) e).trans (h i)
theorem below_alloc (w : World) (o : Obj) : Below w.heap.size w (w.alloc o) := (Below.refl _ _).alloc (Nat.le_refl _) _

/-- only the blocks of S and new ones may have turned -/
structure Only (S : List Nat) (w w' : World) : Prop where
  os : w'.os = w.os
  tape : w'.tape = w.tape
  output : w'.output = w.output
  size : w.heap.size ≤ w'.heap.size
  block : ∀ k, k < w.heap.size → k ∉ S → w'.heap[k]? = w.heap[k]?
namespace Only
variable {S S' : List Nat} {w w' w'' : World}
theorem refl (S : List Nat) (w : World) : Only S w w := ⟨rfl, rfl, rfl, Nat.le_refl _, fun _ _ _ => rfl⟩
theorem trans (h : Only S w w') (k : Only S w' w'') : Only S w w'' :=
  ⟨k.os.trans h.os, k.tape.trans h.tape, k.output.trans h.output, Nat.le_trans h.size k.size, fun i hi hs => (k.block i (Nat.lt_of_lt_of_le hi h.size) hs).trans (h.block i hi hs)⟩
theorem of_below (S : List Nat) (h : Below w.heap.size w w') : Only S w w' := ⟨h.os, h.tape, h.output, h.size, fun k hk _ => h.block k hk⟩
theorem below {B : Nat} (h : Only S w w') (hS : ∀ s ∈ S, B ≤ s) (hB : B ≤ w.heap.size) : Below B w w' :=
  ⟨h.os, h.tape, h.output, h.size, fun k hk => h.block k (by omega) (fun hs => by have := hS k hs; omega)⟩
theorem mono (h : Only S w w') (hS : ∀ s ∈ S, s ∈ S') : Only S' w w' := ⟨h.os, h.tape, h.output, h.size, fun k hk hs => h.block k hk (fun hk' => hs (hS k hk'))⟩
/-- what turned is new to an elder world -/
theorem after (h : Only S w w') (k : Only S' w' w'') (hS : ∀ s ∈ S', s ∈ S ∨ w.heap.size ≤ s) : Only S w w'' :=
  ⟨k.os.trans h.os, k.tape.trans h.tape, k.output.trans h.output, Nat.le_trans h.size k.size, fun i hi hs => (k.block i (Nat.lt_of_lt_of_le hi h.size) (fun hi' => by rcases hS i hi' with h1 | h1; exact hs h1; omega)).trans (h.block i hi hs)⟩
theorem drew (h : Only S w w') : Only S w { w' with drawn := w'.drawn + 1 } := ⟨h.os, h.tape, h.output, h.size, h.block⟩
theorem alloc (h : Only S w w') (o : Obj) : Only S w (w'.alloc o) := h.trans (of_below S (below_alloc _ _))
theorem setCell (h : Only S w w') {b : Nat} (hb : b ∈ S ∨ w.heap.size ≤ b) (i : Nat) (v : Value) : Only S w (w'.setCell ⟨b, i, none⟩ v) :=
  ⟨h.os, h.tape, h.output, by simpa [World.setCell] using h.size, fun k hk hs => (Below.heap_setCell _ _ _ _ (by
    intro e
    have e' : k = b := e
    subst e'
    rcases hb with h1 | h1
    · exact hs h1
    · omega)).trans (h.block k hk hs)⟩
end Only

/-- block b holds c, no string shares it -/
structure Holds (w : World) (b : Nat) (c : Array Value) : Prop where
  lt : b < w.heap.size
  cell : ∀ i v, c[i]? = some v → w.cell? ⟨b, i, none⟩ = some v
  thaw : Thaw w b

theorem Holds.same {w w' : World} {b : Nat} {c : Array Value} (h : Holds w b c) (hs : w.heap.size ≤ w'.heap.size) (e : w'.heap[b]? = w.heap[b]?) : Holds w' b c :=
  ⟨Nat.lt_of_lt_of_le h.lt hs, fun i v hv => (World.cell?_of_block (w := w) (a := ⟨b, i, none⟩) e).trans (h.cell i v hv), h.thaw.same e⟩
theorem Holds.only {w w' : World} {b : Nat} {c : Array Value} {S : List Nat} (h : Holds w b c) (ho : Only S w w') (hb : b ∉ S) : Holds w' b c := h.same ho.size (ho.block b h.lt hb)
theorem Holds.keep {w w' : World} {b : Nat} {c : Array Value} (h : Holds w b c) (hb : Below w.heap.size w w') : Holds w' b c := h.same hb.size (hb.block b h.lt)
theorem Holds.new (w : World) (c : Array Value) (t : TypeId) : Holds (w.alloc (.cells c t)) w.heap.size c :=
  ⟨by simp, fun i v hv => by rw [World.cell?_alloc_new]; simpa using hv, thaw_new _ _ _⟩
theorem Holds.set {w : World} {b : Nat} {c : Array Value} (h : Holds w b c) (i : Nat) (v : Value) : Holds (w.setCell ⟨b, i, none⟩ v) b (c.setIfInBounds i v) := by
  refine ⟨by simpa using h.lt, fun j u hu => ?_, h.thaw.setCell _ _⟩
  by_cases hij : i = j
  · subst hij
    rw [Array.getElem?_setIfInBounds] at hu
    simp at hu
    obtain ⟨hlt, rfl⟩ := hu
    have := h.cell i (c[i]) (by simp [hlt])
    exact World.cell?_setCell_same _ _ _ this
  · rw [Array.getElem?_setIfInBounds_ne hij] at hu
    exact (World.cell?_setCell_other _ _ _ _ (by simp [hij])).trans (h.cell j u hu)
theorem Holds.other {w : World} {b b' : Nat} {c : Array Value} (h : Holds w b c) (hne : b' ≠ b) (i : Nat) (v : Value) : Holds (w.setCell ⟨b', i, none⟩ v) b c := by
  refine ⟨by simpa using h.lt, fun j u hu => ?_, h.thaw.setCell _ _⟩
  exact (World.cell?_setCell_other _ _ _ _ (by simp [hne])).trans (h.cell j u hu)

/-- all blocks of L hold what L says; of what was there in w0 only the blocks of S may have turned -/
structure Mm (S : List Nat) (w0 w : World) (L : List (Nat × Array Value)) : Prop where
  old : ∀ s ∈ S, s < w0.heap.size
  only : Only S w0 w
  mem : ∀ x ∈ L, w0.heap.size ≤ x.1 ∧ Holds w x.1 x.2
  dist : L.Pairwise fun a b => a.1 ≠ b.1

section
variable {S : List Nat} {w0 w w' : World} {L : List (Nat × Array Value)}
theorem Mm.start (w : World) (hS : ∀ s ∈ S, s < w.heap.size) : Mm S w w [] := ⟨hS, Only.refl _ _, fun _ h => (by cases h), List.Pairwise.nil⟩
theorem Mm.turn (h : Mm S w0 w L) (hb : Only S w w') : Mm S w0 w' L :=
  ⟨h.old, h.only.trans hb, fun x hx => ⟨(h.mem x hx).1, (h.mem x hx).2.only hb (fun hs => by have := h.old _ hs; have := (h.mem x hx).1; omega)⟩, h.dist⟩
theorem Mm.call (h : Mm S w0 w L) (hb : Below w.heap.size w w') : Mm S w0 w' L := h.turn (Only.of_below S hb)
theorem Mm.drew (h : Mm S w0 w L) : Mm S w0 { w with drawn := w.drawn + 1 } L := h.turn (Only.refl _ _).drew
theorem Mm.push (h : Mm S w0 w L) (b : Nat) (c : Array Value) (t : TypeId) (hn : b = w.heap.size) : Mm S w0 (w.alloc (.cells c t)) ((b, c) :: L) := by
  subst hn
  refine ⟨h.old, h.only.alloc _, fun x hx => ?_, ?_⟩
  · rcases List.mem_cons.1 hx with rfl | hx
    · exact ⟨h.only.size, Holds.new _ _ _⟩
    · exact ⟨(h.mem x hx).1, (h.mem x hx).2.keep (below_alloc _ _)⟩
  · refine List.Pairwise.cons (fun x hx => ?_) h.dist
    have := (h.mem x hx).2.lt
    show w.heap.size ≠ x.1
    omega
theorem Mm.alloc (h : Mm S w0 w L) (o : Obj) : Mm S w0 (w.alloc o) L := h.call (below_alloc _ _)
theorem Mm.drop {x : Nat × Array Value} (h : Mm S w0 w (x :: L)) : Mm S w0 w L :=
  ⟨h.old, h.only, fun y hy => h.mem y (List.mem_cons_of_mem _ hy), (List.pairwise_cons.1 h.dist).2⟩
theorem Mm.at (h : Mm S w0 w L) {k b : Nat} {c : Array Value} (hk : L[k]? = some (b, c)) : Holds w b c := (h.mem _ (List.mem_of_getElem? hk)).2
theorem Mm.get (h : Mm S w0 w L) {k b i : Nat} {c : Array Value} {v : Value} (hk : L[k]? = some (b, c)) (hi : c[i]? = some v) : w.cell? ⟨b, i, none⟩ = some v := (h.at hk).cell i v hi
theorem Mm.cold (h : Mm S w0 w L) {k b : Nat} {c : Array Value} (hk : L[k]? = some (b, c)) (i : Nat) : w.frozen? ⟨b, i, none⟩ = false := (h.at hk).thaw i
theorem Mm.lt (h : Mm S w0 w L) {k b : Nat} {c : Array Value} (hk : L[k]? = some (b, c)) : b < w.heap.size := (h.at hk).lt
theorem Mm.ge (h : Mm S w0 w L) {k b : Nat} {c : Array Value} (hk : L[k]? = some (b, c)) : w0.heap.size ≤ b := (h.mem _ (List.mem_of_getElem? hk)).1
theorem Mm.ne (h : Mm S w0 w L) {k k' b b' : Nat} {c c' : Array Value} (hk : L[k]? = some (b, c)) (hk' : L[k']? = some (b', c')) (hne : k ≠ k') : b ≠ b' := by
  have hp := List.pairwise_iff_getElem.1 h.dist
  obtain ⟨h1, e1⟩ := List.getElem?_eq_some_iff.1 hk
  obtain ⟨h2, e2⟩ := List.getElem?_eq_some_iff.1 hk'
  rcases Nat.lt_or_gt_of_ne hne with hl | hl
  · have := hp k k' h1 h2 hl
    rw [e1, e2] at this
    exact this
  · have := hp k' k h2 h1 hl
    rw [e1, e2] at this
    exact fun h => this h.symm

/-- a store into the block at place k -/
theorem Mm.set (h : Mm S w0 w L) (k : Nat) {b : Nat} {c : Array Value} (hk : L[k]? = some (b, c)) (i : Nat) (v : Value) :
    Mm S w0 (w.setCell ⟨b, i, none⟩ v) (L.set k (b, c.setIfInBounds i v)) := by
  obtain ⟨h1, e1⟩ := List.getElem?_eq_some_iff.1 hk
  refine ⟨h.old, h.only.setCell (.inr (h.ge hk)) _ _, fun x hx => ?_, ?_⟩
  · obtain ⟨j, hj, rfl⟩ := List.getElem_of_mem hx
    rw [List.length_set] at hj
    by_cases hkj : k = j
    · subst hkj
      rw [List.getElem_set_self]
      exact ⟨h.ge hk, (h.at hk).set i v⟩
    · rw [List.getElem_set_ne hkj]
      have hjj : L[j]? = some (L[j].1, L[j].2) := by simp [hj]
      exact ⟨h.ge hjj, (h.at hjj).other (h.ne hk hjj hkj) i v⟩
  · rw [List.pairwise_iff_getElem]
    intro a a' ha ha' hlt
    have hp := List.pairwise_iff_getElem.1 h.dist
    rw [List.length_set] at ha ha'
    have := hp a a' ha ha' hlt
    by_cases h1 : k = a
    · subst h1
      rw [List.getElem_set_self, List.getElem_set_ne (by omega)]
      rw [e1] at this
      exact this
    · by_cases h2 : k = a'
      · subst h2
        rw [List.getElem_set_self, List.getElem_set_ne (by omega)]
        rw [e1] at this
        exact this
      · rw [List.getElem_set_ne h1, List.getElem_set_ne h2]
        exact this
end

/-- cells stored one after the other -/
def setAll (w : World) (b : Nat) : Nat → List Value → World
  | _, [] => w
  | i, v :: vs => setAll (w.setCell ⟨b, i, none⟩ v) b (i + 1) vs

theorem Mm.setFrom {S : List Nat} {w0 : World} {L : List (Nat × Array Value)} (k : Nat) {b : Nat} : ∀ (vs : List Value) (w : World) (i : Nat) (c : Array Value), Mm S w0 w L → L[k]? = some (b, c) →
    Mm S w0 (setAll w b i vs) (L.set k (b, (vs.foldl (fun (p : Nat × Array Value) v => (p.1 + 1, p.2.setIfInBounds p.1 v)) (i, c)).2))
  | [], w, i, c, h, hk => by
    obtain ⟨h1, e1⟩ := List.getElem?_eq_some_iff.1 hk
    have : L.set k (b, c) = L := by rw [← e1]; simp
    simp only [List.foldl, setAll]
    rw [this]
    exact h
  | v :: vs, w, i, c, h, hk => by
    obtain ⟨h1, e1⟩ := List.getElem?_eq_some_iff.1 hk
    have := Mm.setFrom (L := L.set k (b, c.setIfInBounds i v)) (b := b) k vs _ (i + 1) (c.setIfInBounds i v) (h.set k hk i v) (by simp [h1])
    simpa [setAll, List.set_set] using this

/-- a whole block stored -/
theorem Mm.put {S : List Nat} {w0 w : World} {L : List (Nat × Array Value)} (h : Mm S w0 w L) (k : Nat) {b : Nat} {c : Array Value} (hk : L[k]? = some (b, c)) (vs : List Value) (hs : vs.length = c.size) :
    Mm S w0 (setAll w b 0 vs) (L.set k (b, vs.toArray)) := by
  have key : ∀ (vs : List Value) (i : Nat) (c : Array Value), i + vs.length = c.size →
      (vs.foldl (fun (p : Nat × Array Value) v => (p.1 + 1, p.2.setIfInBounds p.1 v)) (i, c)).2 = (c.toList.take i ++ vs).toArray := by
    intro vs
    induction vs with
    | nil =>
      intro i c hi
      have hi' : i = c.size := by simpa using hi
      subst hi'
      simp only [List.foldl, List.append_nil]
      rw [List.take_of_length_le (by simp)]
    | cons v vs ih =>
      intro i c hi
      simp only [List.foldl]
      rw [ih (i + 1) (c.setIfInBounds i v) (by simp at hi ⊢; omega)]
      have hlt : i < c.size := by simp at hi; omega
      have e : (c.toList.set i v).take (i + 1) = c.toList.take i ++ [v] := by
        rw [List.take_succ_eq_append_getElem (by simpa using hlt), List.take_set_of_le (Nat.le_refl _), List.getElem_set_self]
      rw [Array.toList_setIfInBounds, e]
      simp
  have := Mm.setFrom k vs w 0 c h hk
  rw [key vs 0 c (by simpa using hs)] at this
  simpa using this
theorem Mm.put1 {S : List Nat} {w0 w : World} {L : List (Nat × Array Value)} (h : Mm S w0 w L) (k : Nat) {b : Nat} {c0 : Value} (hk : L[k]? = some (b, #[c0])) (a0 : Value) :
    Mm S w0 (w.setCell ⟨b, 0, none⟩ a0) (L.set k (b, #[a0])) := h.put k hk [a0] rfl
theorem Mm.put2 {S : List Nat} {w0 w : World} {L : List (Nat × Array Value)} (h : Mm S w0 w L) (k : Nat) {b : Nat} {c0 c1 : Value} (hk : L[k]? = some (b, #[c0, c1])) (a0 a1 : Value) :
    Mm S w0 ((w.setCell ⟨b, 0, none⟩ a0).setCell ⟨b, 1, none⟩ a1) (L.set k (b, #[a0, a1])) := h.put k hk [a0, a1] rfl
theorem Mm.put3 {S : List Nat} {w0 w : World} {L : List (Nat × Array Value)} (h : Mm S w0 w L) (k : Nat) {b : Nat} {c0 c1 c2 : Value} (hk : L[k]? = some (b, #[c0, c1, c2])) (a0 a1 a2 : Value) :
    Mm S w0 (((w.setCell ⟨b, 0, none⟩ a0).setCell ⟨b, 1, none⟩ a1).setCell ⟨b, 2, none⟩ a2) (L.set k (b, #[a0, a1, a2])) := h.put k hk [a0, a1, a2] rfl
theorem Mm.put4 {S : List Nat} {w0 w : World} {L : List (Nat × Array Value)} (h : Mm S w0 w L) (k : Nat) {b : Nat} {c0 c1 c2 c3 : Value} (hk : L[k]? = some (b, #[c0, c1, c2, c3])) (a0 a1 a2 a3 : Value) :
    Mm S w0 ((((w.setCell ⟨b, 0, none⟩ a0).setCell ⟨b, 1, none⟩ a1).setCell ⟨b, 2, none⟩ a2).setCell ⟨b, 3, none⟩ a3) (L.set k (b, #[a0, a1, a2, a3])) := h.put k hk [a0, a1, a2, a3] rfl
theorem Mm.put5 {S : List Nat} {w0 w : World} {L : List (Nat × Array Value)} (h : Mm S w0 w L) (k : Nat) {b : Nat} {c0 c1 c2 c3 c4 : Value} (hk : L[k]? = some (b, #[c0, c1, c2, c3, c4])) (a0 a1 a2 a3 a4 : Value) :
    Mm S w0 (((((w.setCell ⟨b, 0, none⟩ a0).setCell ⟨b, 1, none⟩ a1).setCell ⟨b, 2, none⟩ a2).setCell ⟨b, 3, none⟩ a3).setCell ⟨b, 4, none⟩ a4) (L.set k (b, #[a0, a1, a2, a3, a4])) := h.put k hk [a0, a1, a2, a3, a4] rfl
theorem Mm.put6 {S : List Nat} {w0 w : World} {L : List (Nat × Array Value)} (h : Mm S w0 w L) (k : Nat) {b : Nat} {c0 c1 c2 c3 c4 c5 : Value} (hk : L[k]? = some (b, #[c0, c1, c2, c3, c4, c5])) (a0 a1 a2 a3 a4 a5 : Value) :
    Mm S w0 ((((((w.setCell ⟨b, 0, none⟩ a0).setCell ⟨b, 1, none⟩ a1).setCell ⟨b, 2, none⟩ a2).setCell ⟨b, 3, none⟩ a3).setCell ⟨b, 4, none⟩ a4).setCell ⟨b, 5, none⟩ a5) (L.set k (b, #[a0, a1, a2, a3, a4, a5])) := h.put k hk [a0, a1, a2, a3, a4, a5] rfl
theorem Mm.put7 {S : List Nat} {w0 w : World} {L : List (Nat × Array Value)} (h : Mm S w0 w L) (k : Nat) {b : Nat} {c0 c1 c2 c3 c4 c5 c6 : Value} (hk : L[k]? = some (b, #[c0, c1, c2, c3, c4, c5, c6])) (a0 a1 a2 a3 a4 a5 a6 : Value) :
    Mm S w0 (((((((w.setCell ⟨b, 0, none⟩ a0).setCell ⟨b, 1, none⟩ a1).setCell ⟨b, 2, none⟩ a2).setCell ⟨b, 3, none⟩ a3).setCell ⟨b, 4, none⟩ a4).setCell ⟨b, 5, none⟩ a5).setCell ⟨b, 6, none⟩ a6) (L.set k (b, #[a0, a1, a2, a3, a4, a5, a6])) := h.put k hk [a0, a1, a2, a3, a4, a5, a6] rfl
theorem Mm.put8 {S : List Nat} {w0 w : World} {L : List (Nat × Array Value)} (h : Mm S w0 w L) (k : Nat) {b : Nat} {c0 c1 c2 c3 c4 c5 c6 c7 : Value} (hk : L[k]? = some (b, #[c0, c1, c2, c3, c4, c5, c6, c7])) (a0 a1 a2 a3 a4 a5 a6 a7 : Value) :
    Mm S w0 ((((((((w.setCell ⟨b, 0, none⟩ a0).setCell ⟨b, 1, none⟩ a1).setCell ⟨b, 2, none⟩ a2).setCell ⟨b, 3, none⟩ a3).setCell ⟨b, 4, none⟩ a4).setCell ⟨b, 5, none⟩ a5).setCell ⟨b, 6, none⟩ a6).setCell ⟨b, 7, none⟩ a7) (L.set k (b, #[a0, a1, a2, a3, a4, a5, a6, a7])) := h.put k hk [a0, a1, a2, a3, a4, a5, a6, a7] rfl
theorem Holds.lay1 {w : World} {b : Nat} {c0 : Value} (h : Holds w b #[c0]) :
    w.cell? ⟨b, 0, none⟩ = some c0 ∧ w.frozen? ⟨b, 0, none⟩ = false ∧ b < w.heap.size :=
  ⟨h.cell 0 _ rfl, h.thaw 0, h.lt⟩
theorem Mm.lay1 {S : List Nat} {w0 w : World} {L : List (Nat × Array Value)} (h : Mm S w0 w L) (k : Nat) {b : Nat} {c0 : Value} (hk : L[k]? = some (b, #[c0])) :
    w.cell? ⟨b, 0, none⟩ = some c0 ∧ w.frozen? ⟨b, 0, none⟩ = false ∧ b < w.heap.size := (h.at hk).lay1
theorem Holds.lay2 {w : World} {b : Nat} {c0 c1 : Value} (h : Holds w b #[c0, c1]) :
    w.cell? ⟨b, 0, none⟩ = some c0 ∧ w.cell? ⟨b, 1, none⟩ = some c1 ∧ w.frozen? ⟨b, 0, none⟩ = false ∧ w.frozen? ⟨b, 1, none⟩ = false ∧ b < w.heap.size :=
  ⟨h.cell 0 _ rfl, h.cell 1 _ rfl, h.thaw 0, h.thaw 1, h.lt⟩
theorem Mm.lay2 {S : List Nat} {w0 w : World} {L : List (Nat × Array Value)} (h : Mm S w0 w L) (k : Nat) {b : Nat} {c0 c1 : Value} (hk : L[k]? = some (b, #[c0, c1])) :
    w.cell? ⟨b, 0, none⟩ = some c0 ∧ w.cell? ⟨b, 1, none⟩ = some c1 ∧ w.frozen? ⟨b, 0, none⟩ = false ∧ w.frozen? ⟨b, 1, none⟩ = false ∧ b < w.heap.size := (h.at hk).lay2
theorem Holds.lay3 {w : World} {b : Nat} {c0 c1 c2 : Value} (h : Holds w b #[c0, c1, c2]) :
    w.cell? ⟨b, 0, none⟩ = some c0 ∧ w.cell? ⟨b, 1, none⟩ = some c1 ∧ w.cell? ⟨b, 2, none⟩ = some c2 ∧ w.frozen? ⟨b, 0, none⟩ = false ∧ w.frozen? ⟨b, 1, none⟩ = false ∧ w.frozen? ⟨b, 2, none⟩ = false ∧ b < w.heap.size :=
  ⟨h.cell 0 _ rfl, h.cell 1 _ rfl, h.cell 2 _ rfl, h.thaw 0, h.thaw 1, h.thaw 2, h.lt⟩
theorem Mm.lay3 {S : List Nat} {w0 w : World} {L : List (Nat × Array Value)} (h : Mm S w0 w L) (k : Nat) {b : Nat} {c0 c1 c2 : Value} (hk : L[k]? = some (b, #[c0, c1, c2])) :
    w.cell? ⟨b, 0, none⟩ = some c0 ∧ w.cell? ⟨b, 1, none⟩ = some c1 ∧ w.cell? ⟨b, 2, none⟩ = some c2 ∧ w.frozen? ⟨b, 0, none⟩ = false ∧ w.frozen? ⟨b, 1, none⟩ = false ∧ w.frozen? ⟨b, 2, none⟩ = false ∧ b < w.heap.size := (h.at hk).lay3
theorem Holds.lay4 {w : World} {b : Nat} {c0 c1 c2 c3 : Value} (h : Holds w b #[c0, c1, c2, c3]) :
    w.cell? ⟨b, 0, none⟩ = some c0 ∧ w.cell? ⟨b, 1, none⟩ = some c1 ∧ w.cell? ⟨b, 2, none⟩ = some c2 ∧ w.cell? ⟨b, 3, none⟩ = some c3 ∧ w.frozen? ⟨b, 0, none⟩ = false ∧ w.frozen? ⟨b, 1, none⟩ = false ∧ w.frozen? ⟨b, 2, none⟩ = false ∧ w.frozen? ⟨b, 3, none⟩ = false ∧ b < w.heap.size :=
  ⟨h.cell 0 _ rfl, h.cell 1 _ rfl, h.cell 2 _ rfl, h.cell 3 _ rfl, h.thaw 0, h.thaw 1, h.thaw 2, h.thaw 3, h.lt⟩
theorem Mm.lay4 {S : List Nat} {w0 w : World} {L : List (Nat × Array Value)} (h : Mm S w0 w L) (k : Nat) {b : Nat} {c0 c1 c2 c3 : Value} (hk : L[k]? = some (b, #[c0, c1, c2, c3])) :
    w.cell? ⟨b, 0, none⟩ = some c0 ∧ w.cell? ⟨b, 1, none⟩ = some c1 ∧ w.cell? ⟨b, 2, none⟩ = some c2 ∧ w.cell? ⟨b, 3, none⟩ = some c3 ∧ w.frozen? ⟨b, 0, none⟩ = false ∧ w.frozen? ⟨b, 1, none⟩ = false ∧ w.frozen? ⟨b, 2, none⟩ = false ∧ w.frozen? ⟨b, 3, none⟩ = false ∧ b < w.heap.size := (h.at hk).lay4
theorem Holds.lay5 {w : World} {b : Nat} {c0 c1 c2 c3 c4 : Value} (h : Holds w b #[c0, c1, c2, c3, c4]) :
    w.cell? ⟨b, 0, none⟩ = some c0 ∧ w.cell? ⟨b, 1, none⟩ = some c1 ∧ w.cell? ⟨b, 2, none⟩ = some c2 ∧ w.cell? ⟨b, 3, none⟩ = some c3 ∧ w.cell? ⟨b, 4, none⟩ = some c4 ∧ w.frozen? ⟨b, 0, none⟩ = false ∧ w.frozen? ⟨b, 1, none⟩ = false ∧ w.frozen? ⟨b, 2, none⟩ = false ∧ w.frozen? ⟨b, 3, none⟩ = false ∧ w.frozen? ⟨b, 4, none⟩ = false ∧ b < w.heap.size :=
  ⟨h.cell 0 _ rfl, h.cell 1 _ rfl, h.cell 2 _ rfl, h.cell 3 _ rfl, h.cell 4 _ rfl, h.thaw 0, h.thaw 1, h.thaw 2, h.thaw 3, h.thaw 4, h.lt⟩
theorem Mm.lay5 {S : List Nat} {w0 w : World} {L : List (Nat × Array Value)} (h : Mm S w0 w L) (k : Nat) {b : Nat} {c0 c1 c2 c3 c4 : Value} (hk : L[k]? = some (b, #[c0, c1, c2, c3, c4])) :
    w.cell? ⟨b, 0, none⟩ = some c0 ∧ w.cell? ⟨b, 1, none⟩ = some c1 ∧ w.cell? ⟨b, 2, none⟩ = some c2 ∧ w.cell? ⟨b, 3, none⟩ = some c3 ∧ w.cell? ⟨b, 4, none⟩ = some c4 ∧ w.frozen? ⟨b, 0, none⟩ = false ∧ w.frozen? ⟨b, 1, none⟩ = false ∧ w.frozen? ⟨b, 2, none⟩ = false ∧ w.frozen? ⟨b, 3, none⟩ = false ∧ w.frozen? ⟨b, 4, none⟩ = false ∧ b < w.heap.size := (h.at hk).lay5
theorem Holds.lay6 {w : World} {b : Nat} {c0 c1 c2 c3 c4 c5 : Value} (h : Holds w b #[c0, c1, c2, c3, c4, c5]) :
    w.cell? ⟨b, 0, none⟩ = some c0 ∧ w.cell? ⟨b, 1, none⟩ = some c1 ∧ w.cell? ⟨b, 2, none⟩ = some c2 ∧ w.cell? ⟨b, 3, none⟩ = some c3 ∧ w.cell? ⟨b, 4, none⟩ = some c4 ∧ w.cell? ⟨b, 5, none⟩ = some c5 ∧ w.frozen? ⟨b, 0, none⟩ = false ∧ w.frozen? ⟨b, 1, none⟩ = false ∧ w.frozen? ⟨b, 2, none⟩ = false ∧ w.frozen? ⟨b, 3, none⟩ = false ∧ w.frozen? ⟨b, 4, none⟩ = false ∧ w.frozen? ⟨b, 5, none⟩ = false ∧ b < w.heap.size :=
  ⟨h.cell 0 _ rfl, h.cell 1 _ rfl, h.cell 2 _ rfl, h.cell 3 _ rfl, h.cell 4 _ rfl, h.cell 5 _ rfl, h.thaw 0, h.thaw 1, h.thaw 2, h.thaw 3, h.thaw 4, h.thaw 5, h.lt⟩
theorem Mm.lay6 {S : List Nat} {w0 w : World} {L : List (Nat × Array Value)} (h : Mm S w0 w L) (k : Nat) {b : Nat} {c0 c1 c2 c3 c4 c5 : Value} (hk : L[k]? = some (b, #[c0, c1, c2, c3, c4, c5])) :
    w.cell? ⟨b, 0, none⟩ = some c0 ∧ w.cell? ⟨b, 1, none⟩ = some c1 ∧ w.cell? ⟨b, 2, none⟩ = some c2 ∧ w.cell? ⟨b, 3, none⟩ = some c3 ∧ w.cell? ⟨b, 4, none⟩ = some c4 ∧ w.cell? ⟨b, 5, none⟩ = some c5 ∧ w.frozen? ⟨b, 0, none⟩ = false ∧ w.frozen? ⟨b, 1, none⟩ = false ∧ w.frozen? ⟨b, 2, none⟩ = false ∧ w.frozen? ⟨b, 3, none⟩ = false ∧ w.frozen? ⟨b, 4, none⟩ = false ∧ w.frozen? ⟨b, 5, none⟩ = false ∧ b < w.heap.size := (h.at hk).lay6
theorem Holds.lay7 {w : World} {b : Nat} {c0 c1 c2 c3 c4 c5 c6 : Value} (h : Holds w b #[c0, c1, c2, c3, c4, c5, c6]) :
    w.cell? ⟨b, 0, none⟩ = some c0 ∧ w.cell? ⟨b, 1, none⟩ = some c1 ∧ w.cell? ⟨b, 2, none⟩ = some c2 ∧ w.cell? ⟨b, 3, none⟩ = some c3 ∧ w.cell? ⟨b, 4, none⟩ = some c4 ∧ w.cell? ⟨b, 5, none⟩ = some c5 ∧ w.cell? ⟨b, 6, none⟩ = some c6 ∧ w.frozen? ⟨b, 0, none⟩ = false ∧ w.frozen? ⟨b, 1, none⟩ = false ∧ w.frozen? ⟨b, 2, none⟩ = false ∧ w.frozen? ⟨b, 3, none⟩ = false ∧ w.frozen? ⟨b, 4, none⟩ = false ∧ w.frozen? ⟨b, 5, none⟩ = false ∧ w.frozen? ⟨b, 6, none⟩ = false ∧ b < w.heap.size :=
  ⟨h.cell 0 _ rfl, h.cell 1 _ rfl, h.cell 2 _ rfl, h.cell 3 _ rfl, h.cell 4 _ rfl, h.cell 5 _ rfl, h.cell 6 _ rfl, h.thaw 0, h.thaw 1, h.thaw 2, h.thaw 3, h.thaw 4, h.thaw 5, h.thaw 6, h.lt⟩
theorem Mm.lay7 {S : List Nat} {w0 w : World} {L : List (Nat × Array Value)} (h : Mm S w0 w L) (k : Nat) {b : Nat} {c0 c1 c2 c3 c4 c5 c6 : Value} (hk : L[k]? = some (b, #[c0, c1, c2, c3, c4, c5, c6])) :
    w.cell? ⟨b, 0, none⟩ = some c0 ∧ w.cell? ⟨b, 1, none⟩ = some c1 ∧ w.cell? ⟨b, 2, none⟩ = some c2 ∧ w.cell? ⟨b, 3, none⟩ = some c3 ∧ w.cell? ⟨b, 4, none⟩ = some c4 ∧ w.cell? ⟨b, 5, none⟩ = some c5 ∧ w.cell? ⟨b, 6, none⟩ = some c6 ∧ w.frozen? ⟨b, 0, none⟩ = false ∧ w.frozen? ⟨b, 1, none⟩ = false ∧ w.frozen? ⟨b, 2, none⟩ = false ∧ w.frozen? ⟨b, 3, none⟩ = false ∧ w.frozen? ⟨b, 4, none⟩ = false ∧ w.frozen? ⟨b, 5, none⟩ = false ∧ w.frozen? ⟨b, 6, none⟩ = false ∧ b < w.heap.size := (h.at hk).lay7
theorem Holds.lay8 {w : World} {b : Nat} {c0 c1 c2 c3 c4 c5 c6 c7 : Value} (h : Holds w b #[c0, c1, c2, c3, c4, c5, c6, c7]) :
    w.cell? ⟨b, 0, none⟩ = some c0 ∧ w.cell? ⟨b, 1, none⟩ = some c1 ∧ w.cell? ⟨b, 2, none⟩ = some c2 ∧ w.cell? ⟨b, 3, none⟩ = some c3 ∧ w.cell? ⟨b, 4, none⟩ = some c4 ∧ w.cell? ⟨b, 5, none⟩ = some c5 ∧ w.cell? ⟨b, 6, none⟩ = some c6 ∧ w.cell? ⟨b, 7, none⟩ = some c7 ∧ w.frozen? ⟨b, 0, none⟩ = false ∧ w.frozen? ⟨b, 1, none⟩ = false ∧ w.frozen? ⟨b, 2, none⟩ = false ∧ w.frozen? ⟨b, 3, none⟩ = false ∧ w.frozen? ⟨b, 4, none⟩ = false ∧ w.frozen? ⟨b, 5, none⟩ = false ∧ w.frozen? ⟨b, 6, none⟩ = false ∧ w.frozen? ⟨b, 7, none⟩ = false ∧ b < w.heap.size :=
  ⟨h.cell 0 _ rfl, h.cell 1 _ rfl, h.cell 2 _ rfl, h.cell 3 _ rfl, h.cell 4 _ rfl, h.cell 5 _ rfl, h.cell 6 _ rfl, h.cell 7 _ rfl, h.thaw 0, h.thaw 1, h.thaw 2, h.thaw 3, h.thaw 4, h.thaw 5, h.thaw 6, h.thaw 7, h.lt⟩
theorem Mm.lay8 {S : List Nat} {w0 w : World} {L : List (Nat × Array Value)} (h : Mm S w0 w L) (k : Nat) {b : Nat} {c0 c1 c2 c3 c4 c5 c6 c7 : Value} (hk : L[k]? = some (b, #[c0, c1, c2, c3, c4, c5, c6, c7])) :
    w.cell? ⟨b, 0, none⟩ = some c0 ∧ w.cell? ⟨b, 1, none⟩ = some c1 ∧ w.cell? ⟨b, 2, none⟩ = some c2 ∧ w.cell? ⟨b, 3, none⟩ = some c3 ∧ w.cell? ⟨b, 4, none⟩ = some c4 ∧ w.cell? ⟨b, 5, none⟩ = some c5 ∧ w.cell? ⟨b, 6, none⟩ = some c6 ∧ w.cell? ⟨b, 7, none⟩ = some c7 ∧ w.frozen? ⟨b, 0, none⟩ = false ∧ w.frozen? ⟨b, 1, none⟩ = false ∧ w.frozen? ⟨b, 2, none⟩ = false ∧ w.frozen? ⟨b, 3, none⟩ = false ∧ w.frozen? ⟨b, 4, none⟩ = false ∧ w.frozen? ⟨b, 5, none⟩ = false ∧ w.frozen? ⟨b, 6, none⟩ = false ∧ w.frozen? ⟨b, 7, none⟩ = false ∧ b < w.heap.size := (h.at hk).lay8
theorem Holds.lay9 {w : World} {b : Nat} {c0 c1 c2 c3 c4 c5 c6 c7 c8 : Value} (h : Holds w b #[c0, c1, c2, c3, c4, c5, c6, c7, c8]) :
    w.cell? ⟨b, 0, none⟩ = some c0 ∧ w.cell? ⟨b, 1, none⟩ = some c1 ∧ w.cell? ⟨b, 2, none⟩ = some c2 ∧ w.cell? ⟨b, 3, none⟩ = some c3 ∧ w.cell? ⟨b, 4, none⟩ = some c4 ∧ w.cell? ⟨b, 5, none⟩ = some c5 ∧ w.cell? ⟨b, 6, none⟩ = some c6 ∧ w.cell? ⟨b, 7, none⟩ = some c7 ∧ w.cell? ⟨b, 8, none⟩ = some c8 ∧ w.frozen? ⟨b, 0, none⟩ = false ∧ w.frozen? ⟨b, 1, none⟩ = false ∧ w.frozen? ⟨b, 2, none⟩ = false ∧ w.frozen? ⟨b, 3, none⟩ = false ∧ w.frozen? ⟨b, 4, none⟩ = false ∧ w.frozen? ⟨b, 5, none⟩ = false ∧ w.frozen? ⟨b, 6, none⟩ = false ∧ w.frozen? ⟨b, 7, none⟩ = false ∧ w.frozen? ⟨b, 8, none⟩ = false ∧ b < w.heap.size :=
  ⟨h.cell 0 _ rfl, h.cell 1 _ rfl, h.cell 2 _ rfl, h.cell 3 _ rfl, h.cell 4 _ rfl, h.cell 5 _ rfl, h.cell 6 _ rfl, h.cell 7 _ rfl, h.cell 8 _ rfl, h.thaw 0, h.thaw 1, h.thaw 2, h.thaw 3, h.thaw 4, h.thaw 5, h.thaw 6, h.thaw 7, h.thaw 8, h.lt⟩
theorem Mm.lay9 {S : List Nat} {w0 w : World} {L : List (Nat × Array Value)} (h : Mm S w0 w L) (k : Nat) {b : Nat} {c0 c1 c2 c3 c4 c5 c6 c7 c8 : Value} (hk : L[k]? = some (b, #[c0, c1, c2, c3, c4, c5, c6, c7, c8])) :
    w.cell? ⟨b, 0, none⟩ = some c0 ∧ w.cell? ⟨b, 1, none⟩ = some c1 ∧ w.cell? ⟨b, 2, none⟩ = some c2 ∧ w.cell? ⟨b, 3, none⟩ = some c3 ∧ w.cell? ⟨b, 4, none⟩ = some c4 ∧ w.cell? ⟨b, 5, none⟩ = some c5 ∧ w.cell? ⟨b, 6, none⟩ = some c6 ∧ w.cell? ⟨b, 7, none⟩ = some c7 ∧ w.cell? ⟨b, 8, none⟩ = some c8 ∧ w.frozen? ⟨b, 0, none⟩ = false ∧ w.frozen? ⟨b, 1, none⟩ = false ∧ w.frozen? ⟨b, 2, none⟩ = false ∧ w.frozen? ⟨b, 3, none⟩ = false ∧ w.frozen? ⟨b, 4, none⟩ = false ∧ w.frozen? ⟨b, 5, none⟩ = false ∧ w.frozen? ⟨b, 6, none⟩ = false ∧ w.frozen? ⟨b, 7, none⟩ = false ∧ w.frozen? ⟨b, 8, none⟩ = false ∧ b < w.heap.size := (h.at hk).lay9
theorem Holds.lay10 {w : World} {b : Nat} {c0 c1 c2 c3 c4 c5 c6 c7 c8 c9 : Value} (h : Holds w b #[c0, c1, c2, c3, c4, c5, c6, c7, c8, c9]) :
    w.cell? ⟨b, 0, none⟩ = some c0 ∧ w.cell? ⟨b, 1, none⟩ = some c1 ∧ w.cell? ⟨b, 2, none⟩ = some c2 ∧ w.cell? ⟨b, 3, none⟩ = some c3 ∧ w.cell? ⟨b, 4, none⟩ = some c4 ∧ w.cell? ⟨b, 5, none⟩ = some c5 ∧ w.cell? ⟨b, 6, none⟩ = some c6 ∧ w.cell? ⟨b, 7, none⟩ = some c7 ∧ w.cell? ⟨b, 8, none⟩ = some c8 ∧ w.cell? ⟨b, 9, none⟩ = some c9 ∧ w.frozen? ⟨b, 0, none⟩ = false ∧ w.frozen? ⟨b, 1, none⟩ = false ∧ w.frozen? ⟨b, 2, none⟩ = false ∧ w.frozen? ⟨b, 3, none⟩ = false ∧ w.frozen? ⟨b, 4, none⟩ = false ∧ w.frozen? ⟨b, 5, none⟩ = false ∧ w.frozen? ⟨b, 6, none⟩ = false ∧ w.frozen? ⟨b, 7, none⟩ = false ∧ w.frozen? ⟨b, 8, none⟩ = false ∧ w.frozen? ⟨b, 9, none⟩ = false ∧ b < w.heap.size :=
  ⟨h.cell 0 _ rfl, h.cell 1 _ rfl, h.cell 2 _ rfl, h.cell 3 _ rfl, h.cell 4 _ rfl, h.cell 5 _ rfl, h.cell 6 _ rfl, h.cell 7 _ rfl, h.cell 8 _ rfl, h.cell 9 _ rfl, h.thaw 0, h.thaw 1, h.thaw 2, h.thaw 3, h.thaw 4, h.thaw 5, h.thaw 6, h.thaw 7, h.thaw 8, h.thaw 9, h.lt⟩
theorem Mm.lay10 {S : List Nat} {w0 w : World} {L : List (Nat × Array Value)} (h : Mm S w0 w L) (k : Nat) {b : Nat} {c0 c1 c2 c3 c4 c5 c6 c7 c8 c9 : Value} (hk : L[k]? = some (b, #[c0, c1, c2, c3, c4, c5, c6, c7, c8, c9])) :
    w.cell? ⟨b, 0, none⟩ = some c0 ∧ w.cell? ⟨b, 1, none⟩ = some c1 ∧ w.cell? ⟨b, 2, none⟩ = some c2 ∧ w.cell? ⟨b, 3, none⟩ = some c3 ∧ w.cell? ⟨b, 4, none⟩ = some c4 ∧ w.cell? ⟨b, 5, none⟩ = some c5 ∧ w.cell? ⟨b, 6, none⟩ = some c6 ∧ w.cell? ⟨b, 7, none⟩ = some c7 ∧ w.cell? ⟨b, 8, none⟩ = some c8 ∧ w.cell? ⟨b, 9, none⟩ = some c9 ∧ w.frozen? ⟨b, 0, none⟩ = false ∧ w.frozen? ⟨b, 1, none⟩ = false ∧ w.frozen? ⟨b, 2, none⟩ = false ∧ w.frozen? ⟨b, 3, none⟩ = false ∧ w.frozen? ⟨b, 4, none⟩ = false ∧ w.frozen? ⟨b, 5, none⟩ = false ∧ w.frozen? ⟨b, 6, none⟩ = false ∧ w.frozen? ⟨b, 7, none⟩ = false ∧ w.frozen? ⟨b, 8, none⟩ = false ∧ w.frozen? ⟨b, 9, none⟩ = false ∧ b < w.heap.size := (h.at hk).lay10
theorem Holds.lay11 {w : World} {b : Nat} {c0 c1 c2 c3 c4 c5 c6 c7 c8 c9 c10 : Value} (h : Holds w b #[c0, c1, c2, c3, c4, c5, c6, c7, c8, c9, c10]) :
    w.cell? ⟨b, 0, none⟩ = some c0 ∧ w.cell? ⟨b, 1, none⟩ = some c1 ∧ w.cell? ⟨b, 2, none⟩ = some c2 ∧ w.cell? ⟨b, 3, none⟩ = some c3 ∧ w.cell? ⟨b, 4, none⟩ = some c4 ∧ w.cell? ⟨b, 5, none⟩ = some c5 ∧ w.cell? ⟨b, 6, none⟩ = some c6 ∧ w.cell? ⟨b, 7, none⟩ = some c7 ∧ w.cell? ⟨b, 8, none⟩ = some c8 ∧ w.cell? ⟨b, 9, none⟩ = some c9 ∧ w.cell? ⟨b, 10, none⟩ = some c10 ∧ w.frozen? ⟨b, 0, none⟩ = false ∧ w.frozen? ⟨b, 1, none⟩ = false ∧ w.frozen? ⟨b, 2, none⟩ = false ∧ w.frozen? ⟨b, 3, none⟩ = false ∧ w.frozen? ⟨b, 4, none⟩ = false ∧ w.frozen? ⟨b, 5, none⟩ = false ∧ w.frozen? ⟨b, 6, none⟩ = false ∧ w.frozen? ⟨b, 7, none⟩ = false ∧ w.frozen? ⟨b, 8, none⟩ = false ∧ w.frozen? ⟨b, 9, none⟩ = false ∧ w.frozen? ⟨b, 10, none⟩ = false ∧ b < w.heap.size :=
  ⟨h.cell 0 _ rfl, h.cell 1 _ rfl, h.cell 2 _ rfl, h.cell 3 _ rfl, h.cell 4 _ rfl, h.cell 5 _ rfl, h.cell 6 _ rfl, h.cell 7 _ rfl, h.cell 8 _ rfl, h.cell 9 _ rfl, h.cell 10 _ rfl, h.thaw 0, h.thaw 1, h.thaw 2, h.thaw 3, h.thaw 4, h.thaw 5, h.thaw 6, h.thaw 7, h.thaw 8, h.thaw 9, h.thaw 10, h.lt⟩
theorem Mm.lay11 {S : List Nat} {w0 w : World} {L : List (Nat × Array Value)} (h : Mm S w0 w L) (k : Nat) {b : Nat} {c0 c1 c2 c3 c4 c5 c6 c7 c8 c9 c10 : Value} (hk : L[k]? = some (b, #[c0, c1, c2, c3, c4, c5, c6, c7, c8, c9, c10])) :
    w.cell? ⟨b, 0, none⟩ = some c0 ∧ w.cell? ⟨b, 1, none⟩ = some c1 ∧ w.cell? ⟨b, 2, none⟩ = some c2 ∧ w.cell? ⟨b, 3, none⟩ = some c3 ∧ w.cell? ⟨b, 4, none⟩ = some c4 ∧ w.cell? ⟨b, 5, none⟩ = some c5 ∧ w.cell? ⟨b, 6, none⟩ = some c6 ∧ w.cell? ⟨b, 7, none⟩ = some c7 ∧ w.cell? ⟨b, 8, none⟩ = some c8 ∧ w.cell? ⟨b, 9, none⟩ = some c9 ∧ w.cell? ⟨b, 10, none⟩ = some c10 ∧ w.frozen? ⟨b, 0, none⟩ = false ∧ w.frozen? ⟨b, 1, none⟩ = false ∧ w.frozen? ⟨b, 2, none⟩ = false ∧ w.frozen? ⟨b, 3, none⟩ = false ∧ w.frozen? ⟨b, 4, none⟩ = false ∧ w.frozen? ⟨b, 5, none⟩ = false ∧ w.frozen? ⟨b, 6, none⟩ = false ∧ w.frozen? ⟨b, 7, none⟩ = false ∧ w.frozen? ⟨b, 8, none⟩ = false ∧ w.frozen? ⟨b, 9, none⟩ = false ∧ w.frozen? ⟨b, 10, none⟩ = false ∧ b < w.heap.size := (h.at hk).lay11
theorem Holds.lay12 {w : World} {b : Nat} {c0 c1 c2 c3 c4 c5 c6 c7 c8 c9 c10 c11 : Value} (h : Holds w b #[c0, c1, c2, c3, c4, c5, c6, c7, c8, c9, c10, c11]) :
    w.cell? ⟨b, 0, none⟩ = some c0 ∧ w.cell? ⟨b, 1, none⟩ = some c1 ∧ w.cell? ⟨b, 2, none⟩ = some c2 ∧ w.cell? ⟨b, 3, none⟩ = some c3 ∧ w.cell? ⟨b, 4, none⟩ = some c4 ∧ w.cell? ⟨b, 5, none⟩ = some c5 ∧ w.cell? ⟨b, 6, none⟩ = some c6 ∧ w.cell? ⟨b, 7, none⟩ = some c7 ∧ w.cell? ⟨b, 8, none⟩ = some c8 ∧ w.cell? ⟨b, 9, none⟩ = some c9 ∧ w.cell? ⟨b, 10, none⟩ = some c10 ∧ w.cell? ⟨b, 11, none⟩ = some c11 ∧ w.frozen? ⟨b, 0, none⟩ = false ∧ w.frozen? ⟨b, 1, none⟩ = false ∧ w.frozen? ⟨b, 2, none⟩ = false ∧ w.frozen? ⟨b, 3, none⟩ = false ∧ w.frozen? ⟨b, 4, none⟩ = false ∧ w.frozen? ⟨b, 5, none⟩ = false ∧ w.frozen? ⟨b, 6, none⟩ = false ∧ w.frozen? ⟨b, 7, none⟩ = false ∧ w.frozen? ⟨b, 8, none⟩ = false ∧ w.frozen? ⟨b, 9, none⟩ = false ∧ w.frozen? ⟨b, 10, none⟩ = false ∧ w.frozen? ⟨b, 11, none⟩ = false ∧ b < w.heap.size :=
  ⟨h.cell 0 _ rfl, h.cell 1 _ rfl, h.cell 2 _ rfl, h.cell 3 _ rfl, h.cell 4 _ rfl, h.cell 5 _ rfl, h.cell 6 _ rfl, h.cell 7 _ rfl, h.cell 8 _ rfl, h.cell 9 _ rfl, h.cell 10 _ rfl, h.cell 11 _ rfl, h.thaw 0, h.thaw 1, h.thaw 2, h.thaw 3, h.thaw 4, h.thaw 5, h.thaw 6, h.thaw 7, h.thaw 8, h.thaw 9, h.thaw 10, h.thaw 11, h.lt⟩
theorem Mm.lay12 {S : List Nat} {w0 w : World} {L : List (Nat × Array Value)} (h : Mm S w0 w L) (k : Nat) {b : Nat} {c0 c1 c2 c3 c4 c5 c6 c7 c8 c9 c10 c11 : Value} (hk : L[k]? = some (b, #[c0, c1, c2, c3, c4, c5, c6, c7, c8, c9, c10, c11])) :
    w.cell? ⟨b, 0, none⟩ = some c0 ∧ w.cell? ⟨b, 1, none⟩ = some c1 ∧ w.cell? ⟨b, 2, none⟩ = some c2 ∧ w.cell? ⟨b, 3, none⟩ = some c3 ∧ w.cell? ⟨b, 4, none⟩ = some c4 ∧ w.cell? ⟨b, 5, none⟩ = some c5 ∧ w.cell? ⟨b, 6, none⟩ = some c6 ∧ w.cell? ⟨b, 7, none⟩ = some c7 ∧ w.cell? ⟨b, 8, none⟩ = some c8 ∧ w.cell? ⟨b, 9, none⟩ = some c9 ∧ w.cell? ⟨b, 10, none⟩ = some c10 ∧ w.cell? ⟨b, 11, none⟩ = some c11 ∧ w.frozen? ⟨b, 0, none⟩ = false ∧ w.frozen? ⟨b, 1, none⟩ = false ∧ w.frozen? ⟨b, 2, none⟩ = false ∧ w.frozen? ⟨b, 3, none⟩ = false ∧ w.frozen? ⟨b, 4, none⟩ = false ∧ w.frozen? ⟨b, 5, none⟩ = false ∧ w.frozen? ⟨b, 6, none⟩ = false ∧ w.frozen? ⟨b, 7, none⟩ = false ∧ w.frozen? ⟨b, 8, none⟩ = false ∧ w.frozen? ⟨b, 9, none⟩ = false ∧ w.frozen? ⟨b, 10, none⟩ = false ∧ w.frozen? ⟨b, 11, none⟩ = false ∧ b < w.heap.size := (h.at hk).lay12
end Go.Proofs.YtgnmolleaengaaaGreat
