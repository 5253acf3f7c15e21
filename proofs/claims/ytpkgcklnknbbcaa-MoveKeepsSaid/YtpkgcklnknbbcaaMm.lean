/- Blocks of one's own in memory: a list of blocks with what they hold, kept through calls, allocations and stores. -/
import Derived.Test.YtpkgcklnknbbcaaLate
set_option linter.unusedVariables false
set_option linter.unusedSimpArgs false
set_option linter.unnecessarySimpa false
namespace Go.Proofs.Ytpkgcklnknbbcaa
open Go.RowKit

/-- block b holds c, no string shares it -/
structure Holds (w : World) (b : Nat) (c : Array Value) : Prop where
  lt : b < w.heap.size
  cell : ∀ i v, c[i]? = some v → w.cell? ⟨b, i, none⟩ = some v
  thaw : Thaw w b

theorem Holds.keep {w w' : World} {b : Nat} {c : Array Value} (h : Holds w b c) (hb : Below w.heap.size w w') : Holds w' b c :=
  ⟨Nat.lt_of_lt_of_le h.lt hb.size, fun i v hv => (hb.cell (p := ⟨b, i, none⟩) h.lt).trans (h.cell i v hv), h.thaw.below hb h.lt⟩
theorem Holds.new (w : World) (c : Array Value) (t : TypeId) : Holds (w.alloc (.cells c t)) w.heap.size c :=
  ⟨by simp, fun i v hv => by rw [World.cell?_alloc_new]; simpa using hv, thaw_new _ _ _⟩
theorem Holds.set {w : World} {b : Nat} {c : Array Value} (h : Holds w b c) (i : Nat) (v : Value) : Holds (w.setCell ⟨b, i, none⟩ v) b (c.setIfInBounds i v) := by
  refine ⟨by simpa using h.lt, fun j u hu => ?_, h.thaw.setCell _ _⟩
  by_cases hij : i = j
  · subst hij
    rw [Array.getElem?_setIfInBounds] at hu
    simp at hu
    obtain ⟨hlt, rfl⟩ := hu
    have := h.cell i (c[i]) (by simp [hlt])
    exact World.cell?_setCell_same _ _ _ this
  · rw [Array.getElem?_setIfInBounds_ne hij] at hu
    exact (World.cell?_setCell_other _ _ _ _ (by simp [hij])).trans (h.cell j u hu)
theorem Holds.other {w : World} {b b' : Nat} {c : Array Value} (h : Holds w b c) (hne : b' ≠ b) (i : Nat) (v : Value) : Holds (w.setCell ⟨b', i, none⟩ v) b c := by
  refine ⟨by simpa using h.lt, fun j u hu => ?_, h.thaw.setCell _ _⟩
  exact (World.cell?_setCell_other _ _ _ _ (by simp [hne])).trans (h.cell j u hu)

/-- all blocks of L hold what L says; below w0's heap nothing has changed -/
structure Mm (w0 w : World) (L : List (Nat × Array Value)) : Prop where
  below : Below w0.heap.size w0 w
  mem : ∀ x ∈ L, w0.heap.size ≤ x.1 ∧ Holds w x.1 x.2
  dist : L.Pairwise fun a b => a.1 ≠ b.1

theorem Mm.start (w : World) : Mm w w [] := ⟨Below.refl _ _, fun _ h => (by cases h), List.Pairwise.nil⟩
theorem Mm.call {w0 w w' : World} {L : List (Nat × Array Value)} (h : Mm w0 w L) (hb : Below w.heap.size w w') : Mm w0 w' L :=
  ⟨h.below.trans (hb.mono h.below.size), fun x hx => ⟨(h.mem x hx).1, (h.mem x hx).2.keep hb⟩, h.dist⟩
theorem Mm.drew {w0 w : World} {L : List (Nat × Array Value)} (h : Mm w0 w L) : Mm w0 { w with drawn := w.drawn + 1 } L := h.call (Below.refl _ _).drew
theorem Mm.push {w0 w : World} {L : List (Nat × Array Value)} (h : Mm w0 w L) (b : Nat) (c : Array Value) (t : TypeId) (hn : b = w.heap.size) : Mm w0 (w.alloc (.cells c t)) ((b, c) :: L) := by
  subst hn
  refine ⟨h.below.alloc h.below.size _, fun x hx => ?_, ?_⟩
  · rcases List.mem_cons.1 hx with rfl | hx
    · exact ⟨h.below.size, Holds.new _ _ _⟩
    · exact ⟨(h.mem x hx).1, (h.mem x hx).2.keep (below_of_allocs _)⟩
  · refine List.Pairwise.cons (fun x hx => ?_) h.dist
    have := (h.mem x hx).2.lt
    show w.heap.size ≠ x.1
    omega
theorem Mm.alloc {w0 w : World} {L : List (Nat × Array Value)} (h : Mm w0 w L) (o : Obj) : Mm w0 (w.alloc o) L := h.call (below_of_allocs _)
theorem Mm.drop {w0 w : World} {x : Nat × Array Value} {L : List (Nat × Array Value)} (h : Mm w0 w (x :: L)) : Mm w0 w L :=
  ⟨h.below, fun y hy => h.mem y (List.mem_cons_of_mem _ hy), (List.pairwise_cons.1 h.dist).2⟩
theorem Mm.drop2 {w0 w : World} {x y : Nat × Array Value} {L : List (Nat × Array Value)} (h : Mm w0 w (x :: y :: L)) : Mm w0 w (x :: L) :=
  ⟨h.below, fun z hz => h.mem z (by rcases List.mem_cons.1 hz with rfl | hz; exact List.mem_cons_self; exact List.mem_cons_of_mem _ (List.mem_cons_of_mem _ hz)),
    List.Pairwise.cons (fun z hz => (List.pairwise_cons.1 h.dist).1 z (List.mem_cons_of_mem _ hz)) (List.pairwise_cons.1 (List.pairwise_cons.1 h.dist).2).2⟩

theorem Mm.at {w0 w : World} {L : List (Nat × Array Value)} (h : Mm w0 w L) {k b : Nat} {c : Array Value} (hk : L[k]? = some (b, c)) : Holds w b c := (h.mem _ (List.mem_of_getElem? hk)).2
theorem Mm.get {w0 w : World} {L : List (Nat × Array Value)} (h : Mm w0 w L) {k b i : Nat} {c : Array Value} {v : Value} (hk : L[k]? = some (b, c)) (hi : c[i]? = some v) : w.cell? ⟨b, i, none⟩ = some v := (h.at hk).cell i v hi
theorem Mm.cold {w0 w : World} {L : List (Nat × Array Value)} (h : Mm w0 w L) {k b : Nat} {c : Array Value} (hk : L[k]? = some (b, c)) (i : Nat) : w.frozen? ⟨b, i, none⟩ = false := (h.at hk).thaw i
theorem Mm.lt {w0 w : World} {L : List (Nat × Array Value)} (h : Mm w0 w L) {k b : Nat} {c : Array Value} (hk : L[k]? = some (b, c)) : b < w.heap.size := (h.at hk).lt
theorem Mm.ge {w0 w : World} {L : List (Nat × Array Value)} (h : Mm w0 w L) {k b : Nat} {c : Array Value} (hk : L[k]? = some (b, c)) : w0.heap.size ≤ b := (h.mem _ (List.mem_of_getElem? hk)).1

theorem Mm.ne {w0 w : World} {L : List (Nat × Array Value)} (h : Mm w0 w L) {k k' b b' : Nat} {c c' : Array Value} (hk : L[k]? = some (b, c)) (hk' : L[k']? = some (b', c')) (hne : k ≠ k') : b ≠ b' := by
  have hp := List.pairwise_iff_getElem.1 h.dist
  obtain ⟨h1, e1⟩ := List.getElem?_eq_some_iff.1 hk
  obtain ⟨h2, e2⟩ := List.getElem?_eq_some_iff.1 hk'
  rcases Nat.lt_or_gt_of_ne hne with hl | hl
  · have := hp k k' h1 h2 hl
    rw [e1, e2] at this
    exact this
  · have := hp k' k h2 h1 hl
    rw [e1, e2] at this
    exact fun h => this h.symm

/-- a store into the block at place k -/
theorem Mm.set {w0 w : World} {L : List (Nat × Array Value)} (h : Mm w0 w L) (k : Nat) {b : Nat} {c : Array Value} (hk : L[k]? = some (b, c)) (i : Nat) (v : Value) :
    Mm w0 (w.setCell ⟨b, i, none⟩ v) (L.set k (b, c.setIfInBounds i v)) := by
  obtain ⟨h1, e1⟩ := List.getElem?_eq_some_iff.1 hk
  refine ⟨h.below.setCell (h.ge hk) _, fun x hx => ?_, ?_⟩
  · obtain ⟨j, hj, rfl⟩ := List.getElem_of_mem hx
    rw [List.length_set] at hj
    by_cases hkj : k = j
    · subst hkj
      rw [List.getElem_set_self]
      exact ⟨h.ge hk, (h.at hk).set i v⟩
    · rw [List.getElem_set_ne hkj]
      have hjj : L[j]? = some (L[j].1, L[j].2) := by simp [hj]
      exact ⟨h.ge hjj, (h.at hjj).other (h.ne hk hjj hkj) i v⟩
  · rw [List.pairwise_iff_getElem]
    intro a a' ha ha' hlt
    have hp := List.pairwise_iff_getElem.1 h.dist
    rw [List.length_set] at ha ha'
    have := hp a a' ha ha' hlt
    by_cases h1 : k = a
    · subst h1
      rw [List.getElem_set_self, List.getElem_set_ne (by omega)]
      rw [e1] at this
      exact this
    · by_cases h2 : k = a'
      · subst h2
        rw [List.getElem_set_self, List.getElem_set_ne (by omega)]
        rw [e1] at this
        exact this
      · rw [List.getElem_set_ne h1, List.getElem_set_ne h2]
        exact this

/-- a store into a block that is no block of L -/
theorem Mm.away {w0 w : World} {L : List (Nat × Array Value)} (h : Mm w0 w L) {b : Nat} (hb : w0.heap.size ≤ b) (hL : ∀ x ∈ L, b ≠ x.1) (i : Nat) (v : Value) : Mm w0 (w.setCell ⟨b, i, none⟩ v) L :=
  ⟨h.below.setCell hb _, fun x hx => ⟨(h.mem x hx).1, (h.mem x hx).2.other (hL x hx) i v⟩, h.dist⟩

/-- cells stored one after the other -/
def setAll (w : World) (b : Nat) : Nat → List Value → World
  | _, [] => w
  | i, v :: vs => setAll (w.setCell ⟨b, i, none⟩ v) b (i + 1) vs

theorem Mm.setFrom {w0 : World} {L : List (Nat × Array Value)} (k : Nat) {b : Nat} : ∀ (vs : List Value) (w : World) (i : Nat) (c : Array Value), Mm w0 w L → L[k]? = some (b, c) →
    Mm w0 (setAll w b i vs) (L.set k (b, (vs.foldl (fun (p : Nat × Array Value) v => (p.1 + 1, p.2.setIfInBounds p.1 v)) (i, c)).2))
  | [], w, i, c, h, hk => by
    obtain ⟨h1, e1⟩ := List.getElem?_eq_some_iff.1 hk
    have : L.set k (b, c) = L := by rw [← e1]; simp
    simp only [List.foldl, setAll]
    rw [this]
    exact h
  | v :: vs, w, i, c, h, hk => by
    obtain ⟨h1, e1⟩ := List.getElem?_eq_some_iff.1 hk
    have := Mm.setFrom (L := L.set k (b, c.setIfInBounds i v)) (b := b) k vs _ (i + 1) (c.setIfInBounds i v) (h.set k hk i v) (by simp [h1])
    simpa [setAll, List.set_set] using this

/-- a whole block stored -/
theorem Mm.put {w0 w : World} {L : List (Nat × Array Value)} (h : Mm w0 w L) (k : Nat) {b : Nat} {c : Array Value} (hk : L[k]? = some (b, c)) (vs : List Value) (hs : vs.length = c.size) :
    Mm w0 (setAll w b 0 vs) (L.set k (b, vs.toArray)) := by
  have key : ∀ (vs : List Value) (i : Nat) (c : Array Value), i + vs.length = c.size →
      (vs.foldl (fun (p : Nat × Array Value) v => (p.1 + 1, p.2.setIfInBounds p.1 v)) (i, c)).2 = (c.toList.take i ++ vs).toArray := by
    intro vs
    induction vs with
    | nil =>
      intro i c hi
      have hi' : i = c.size := by simpa using hi
      subst hi'
      simp only [List.foldl, List.append_nil]
      rw [List.take_of_length_le (by simp)]
    | cons v vs ih =>
      intro i c hi
      simp only [List.foldl]
      rw [ih (i + 1) (c.setIfInBounds i v) (by simp at hi ⊢; omega)]
      have hlt : i < c.size := by simp at hi; omega
      have e : (c.toList.set i v).take (i + 1) = c.toList.take i ++ [v] := by
        rw [List.take_succ_eq_append_getElem (by simpa using hlt), List.take_set_of_le (Nat.le_refl _), List.getElem_set_self]
      rw [Array.toList_setIfInBounds, e]
      simp
  have := Mm.setFrom k vs w 0 c h hk
  rw [key vs 0 c (by simpa using hs)] at this
  simpa using this

theorem setAll2 {w : World} {b : Nat} {a0 a1 : Value} : (w.setCell ⟨b, 0, none⟩ a0).setCell ⟨b, 1, none⟩ a1 = setAll w b 0 [a0, a1] := rfl
theorem Mm.put2 {w0 w : World} {L : List (Nat × Array Value)} (h : Mm w0 w L) (k : Nat) {b : Nat} {c0 c1 : Value} (hk : L[k]? = some (b, #[c0, c1])) (a0 a1 : Value) :
    Mm w0 ((w.setCell ⟨b, 0, none⟩ a0).setCell ⟨b, 1, none⟩ a1) (L.set k (b, #[a0, a1])) := h.put k hk [a0, a1] rfl
theorem Mm.put4 {w0 w : World} {L : List (Nat × Array Value)} (h : Mm w0 w L) (k : Nat) {b : Nat} {c0 c1 c2 c3 : Value} (hk : L[k]? = some (b, #[c0, c1, c2, c3])) (a0 a1 a2 a3 : Value) :
    Mm w0 ((((w.setCell ⟨b, 0, none⟩ a0).setCell ⟨b, 1, none⟩ a1).setCell ⟨b, 2, none⟩ a2).setCell ⟨b, 3, none⟩ a3) (L.set k (b, #[a0, a1, a2, a3])) := h.put k hk [a0, a1, a2, a3] rfl

theorem Mm.lay1 {w0 w : World} {L : List (Nat × Array Value)} (h : Mm w0 w L) (k : Nat) {b : Nat} {c0 : Value} (hk : L[k]? = some (b, #[c0])) :
    w.cell? ⟨b, 0, none⟩ = some c0 ∧ w.frozen? ⟨b, 0, none⟩ = false ∧ b < w.heap.size :=
  ⟨h.get hk (i := 0) rfl, h.cold hk 0, h.lt hk⟩
theorem Holds.lay1 {w : World} {b : Nat} {c0 : Value} (h : Holds w b #[c0]) :
    w.cell? ⟨b, 0, none⟩ = some c0 ∧ w.frozen? ⟨b, 0, none⟩ = false ∧ b < w.heap.size :=
  ⟨h.cell 0 _ rfl, h.thaw 0, h.lt⟩
theorem Mm.lay2 {w0 w : World} {L : List (Nat × Array Value)} (h : Mm w0 w L) (k : Nat) {b : Nat} {c0 c1 : Value} (hk : L[k]? = some (b, #[c0, c1])) :
    w.cell? ⟨b, 0, none⟩ = some c0 ∧ w.cell? ⟨b, 1, none⟩ = some c1 ∧ w.frozen? ⟨b, 0, none⟩ = false ∧ w.frozen? ⟨b, 1, none⟩ = false ∧ b < w.heap.size :=
  ⟨h.get hk (i := 0) rfl, h.get hk (i := 1) rfl, h.cold hk 0, h.cold hk 1, h.lt hk⟩
theorem Holds.lay2 {w : World} {b : Nat} {c0 c1 : Value} (h : Holds w b #[c0, c1]) :
    w.cell? ⟨b, 0, none⟩ = some c0 ∧ w.cell? ⟨b, 1, none⟩ = some c1 ∧ w.frozen? ⟨b, 0, none⟩ = false ∧ w.frozen? ⟨b, 1, none⟩ = false ∧ b < w.heap.size :=
  ⟨h.cell 0 _ rfl, h.cell 1 _ rfl, h.thaw 0, h.thaw 1, h.lt⟩
theorem Mm.lay3 {w0 w : World} {L : List (Nat × Array Value)} (h : Mm w0 w L) (k : Nat) {b : Nat} {c0 c1 c2 : Value} (hk : L[k]? = some (b, #[c0, c1, c2])) :
    w.cell? ⟨b, 0, none⟩ = some c0 ∧ w.cell? ⟨b, 1, none⟩ = some c1 ∧ w.cell? ⟨b, 2, none⟩ = some c2 ∧ w.frozen? ⟨b, 0, none⟩ = false ∧ w.frozen? ⟨b, 1, none⟩ = false ∧ w.frozen? ⟨b, 2, none⟩ = false ∧ b < w.heap.size :=
  ⟨h.get hk (i := 0) rfl, h.get hk (i := 1) rfl, h.get hk (i := 2) rfl, h.cold hk 0, h.cold hk 1, h.cold hk 2, h.lt hk⟩
theorem Holds.lay3 {w : World} {b : Nat} {c0 c1 c2 : Value} (h : Holds w b #[c0, c1, c2]) :
    w.cell? ⟨b, 0, none⟩ = some c0 ∧ w.cell? ⟨b, 1, none⟩ = some c1 ∧ w.cell? ⟨b, 2, none⟩ = some c2 ∧ w.frozen? ⟨b, 0, none⟩ = false ∧ w.frozen? ⟨b, 1, none⟩ = false ∧ w.frozen? ⟨b, 2, none⟩ = false ∧ b < w.heap.size :=
  ⟨h.cell 0 _ rfl, h.cell 1 _ rfl, h.cell 2 _ rfl, h.thaw 0, h.thaw 1, h.thaw 2, h.lt⟩
theorem Mm.lay4 {w0 w : World} {L : List (Nat × Array Value)} (h : Mm w0 w L) (k : Nat) {b : Nat} {c0 c1 c2 c3 : Value} (hk : L[k]? = some (b, #[c0, c1, c2, c3])) :
    w.cell? ⟨b, 0, none⟩ = some c0 ∧ w.cell? ⟨b, 1, none⟩ = some c1 ∧ w.cell? ⟨b, 2, none⟩ = some c2 ∧ w.cell? ⟨b, 3, none⟩ = some c3 ∧ w.frozen? ⟨b, 0, none⟩ = false ∧ w.frozen? ⟨b, 1, none⟩ = false ∧ w.frozen? ⟨b, 2, none⟩ = false ∧ w.frozen? ⟨b, 3, none⟩ = false ∧ b < w.heap.size :=
  ⟨h.get hk (i := 0) rfl, h.get hk (i := 1) rfl, h.get hk (i := 2) rfl, h.get hk (i := 3) rfl, h.cold hk 0, h.cold hk 1, h.cold hk 2, h.cold hk 3, h.lt hk⟩
theorem Holds.lay4 {w : World} {b : Nat} {c0 c1 c2 c3 : Value} (h : Holds w b #[c0, c1, c2, c3]) :
    w.cell? ⟨b, 0, none⟩ = some c0 ∧ w.cell? ⟨b, 1, none⟩ = some c1 ∧ w.cell? ⟨b, 2, none⟩ = some c2 ∧ w.cell? ⟨b, 3, none⟩ = some c3 ∧ w.frozen? ⟨b, 0, none⟩ = false ∧ w.frozen? ⟨b, 1, none⟩ = false ∧ w.frozen? ⟨b, 2, none⟩ = false ∧ w.frozen? ⟨b, 3, none⟩ = false ∧ b < w.heap.size :=
  ⟨h.cell 0 _ rfl, h.cell 1 _ rfl, h.cell 2 _ rfl, h.cell 3 _ rfl, h.thaw 0, h.thaw 1, h.thaw 2, h.thaw 3, h.lt⟩
theorem Mm.lay5 {w0 w : World} {L : List (Nat × Array Value)} (h : Mm w0 w L) (k : Nat) {b : Nat} {c0 c1 c2 c3 c4 : Value} (hk : L[k]? = some (b, #[c0, c1, c2, c3, c4])) :
    w.cell? ⟨b, 0, none⟩ = some c0 ∧ w.cell? ⟨b, 1, none⟩ = some c1 ∧ w.cell? ⟨b, 2, none⟩ = some c2 ∧ w.cell? ⟨b, 3, none⟩ = some c3 ∧ w.cell? ⟨b, 4, none⟩ = some c4 ∧ w.frozen? ⟨b, 0, none⟩ = false ∧ w.frozen? ⟨b, 1, none⟩ = false ∧ w.frozen? ⟨b, 2, none⟩ = false ∧ w.frozen? ⟨b, 3, none⟩ = false ∧ w.frozen? ⟨b, 4, none⟩ = false ∧ b < w.heap.size :=
  ⟨h.get hk (i := 0) rfl, h.get hk (i := 1) rfl, h.get hk (i := 2) rfl, h.get hk (i := 3) rfl, h.get hk (i := 4) rfl, h.cold hk 0, h.cold hk 1, h.cold hk 2, h.cold hk 3, h.cold hk 4, h.lt hk⟩
theorem Holds.lay5 {w : World} {b : Nat} {c0 c1 c2 c3 c4 : Value} (h : Holds w b #[c0, c1, c2, c3, c4]) :
    w.cell? ⟨b, 0, none⟩ = some c0 ∧ w.cell? ⟨b, 1, none⟩ = some c1 ∧ w.cell? ⟨b, 2, none⟩ = some c2 ∧ w.cell? ⟨b, 3, none⟩ = some c3 ∧ w.cell? ⟨b, 4, none⟩ = some c4 ∧ w.frozen? ⟨b, 0, none⟩ = false ∧ w.frozen? ⟨b, 1, none⟩ = false ∧ w.frozen? ⟨b, 2, none⟩ = false ∧ w.frozen? ⟨b, 3, none⟩ = false ∧ w.frozen? ⟨b, 4, none⟩ = false ∧ b < w.heap.size :=
  ⟨h.cell 0 _ rfl, h.cell 1 _ rfl, h.cell 2 _ rfl, h.cell 3 _ rfl, h.cell 4 _ rfl, h.thaw 0, h.thaw 1, h.thaw 2, h.thaw 3, h.thaw 4, h.lt⟩
theorem Mm.lay6 {w0 w : World} {L : List (Nat × Array Value)} (h : Mm w0 w L) (k : Nat) {b : Nat} {c0 c1 c2 c3 c4 c5 : Value} (hk : L[k]? = some (b, #[c0, c1, c2, c3, c4, c5])) :
    w.cell? ⟨b, 0, none⟩ = some c0 ∧ w.cell? ⟨b, 1, none⟩ = some c1 ∧ w.cell? ⟨b, 2, none⟩ = some c2 ∧ w.cell? ⟨b, 3, none⟩ = some c3 ∧ w.cell? ⟨b, 4, none⟩ = some c4 ∧ w.cell? ⟨b, 5, none⟩ = some c5 ∧ w.frozen? ⟨b, 0, none⟩ = false ∧ w.frozen? ⟨b, 1, none⟩ = false ∧ w.frozen? ⟨b, 2, none⟩ = false ∧ w.frozen? ⟨b, 3, none⟩ = false ∧ w.frozen? ⟨b, 4, none⟩ = false ∧ w.frozen? ⟨b, 5, none⟩ = false ∧ b < w.heap.size :=
  ⟨h.get hk (i := 0) rfl, h.get hk (i := 1) rfl, h.get hk (i := 2) rfl, h.get hk (i := 3) rfl, h.get hk (i := 4) rfl, h.get hk (i := 5) rfl, h.cold hk 0, h.cold hk 1, h.cold hk 2, h.cold hk 3, h.cold hk 4, h.cold hk 5, h.lt hk⟩
theorem Holds.lay6 {w : World} {b : Nat} {c0 c1 c2 c3 c4 c5 : Value} (h : Holds w b #[c0, c1, c2, c3, c4, c5]) :
    w.cell? ⟨b, 0, none⟩ = some c0 ∧ w.cell? ⟨b, 1, none⟩ = some c1 ∧ w.cell? ⟨b, 2, none⟩ = some c2 ∧ w.cell? ⟨b, 3, none⟩ = some c3 ∧ w.cell? ⟨b, 4, none⟩ = some c4 ∧ w.cell? ⟨b, 5, none⟩ = some c5 ∧ w.frozen? ⟨b, 0, none⟩ = false ∧ w.frozen? ⟨b, 1, none⟩ = false ∧ w.frozen? ⟨b, 2, none⟩ = false ∧ w.frozen? ⟨b, 3, none⟩ = false ∧ w.frozen? ⟨b, 4, none⟩ = false ∧ w.frozen? ⟨b, 5, none⟩ = false ∧ b < w.heap.size :=
  ⟨h.cell 0 _ rfl, h.cell 1 _ rfl, h.cell 2 _ rfl, h.cell 3 _ rfl, h.cell 4 _ rfl, h.cell 5 _ rfl, h.thaw 0, h.thaw 1, h.thaw 2, h.thaw 3, h.thaw 4, h.thaw 5, h.lt⟩
theorem Mm.lay7 {w0 w : World} {L : List (Nat × Array Value)} (h : Mm w0 w L) (k : Nat) {b : Nat} {c0 c1 c2 c3 c4 c5 c6 : Value} (hk : L[k]? = some (b, #[c0, c1, c2, c3, c4, c5, c6])) :
    w.cell? ⟨b, 0, none⟩ = some c0 ∧ w.cell? ⟨b, 1, none⟩ = some c1 ∧ w.cell? ⟨b, 2, none⟩ = some c2 ∧ w.cell? ⟨b, 3, none⟩ = some c3 ∧ w.cell? ⟨b, 4, none⟩ = some c4 ∧ w.cell? ⟨b, 5, none⟩ = some c5 ∧ w.cell? ⟨b, 6, none⟩ = some c6 ∧ w.frozen? ⟨b, 0, none⟩ = false ∧ w.frozen? ⟨b, 1, none⟩ = false ∧ w.frozen? ⟨b, 2, none⟩ = false ∧ w.frozen? ⟨b, 3, none⟩ = false ∧ w.frozen? ⟨b, 4, none⟩ = false ∧ w.frozen? ⟨b, 5, none⟩ = false ∧ w.frozen? ⟨b, 6, none⟩ = false ∧ b < w.heap.size :=
  ⟨h.get hk (i := 0) rfl, h.get hk (i := 1) rfl, h.get hk (i := 2) rfl, h.get hk (i := 3) rfl, h.get hk (i := 4) rfl, h.get hk (i := 5) rfl, h.get hk (i := 6) rfl, h.cold hk 0, h.cold hk 1, h.cold hk 2, h.cold hk 3, h.cold hk 4, h.cold hk 5, h.cold hk 6, h.lt hk⟩
theorem Holds.lay7 {w : World} {b : Nat} {c0 c1 c2 c3 c4 c5 c6 : Value} (h : Holds w b #[c0, c1, c2, c3, c4, c5, c6]) :
    w.cell? ⟨b, 0, none⟩ = some c0 ∧ w.cell? ⟨b, 1, none⟩ = some c1 ∧ w.cell? ⟨b, 2, none⟩ = some c2 ∧ w.cell? ⟨b, 3, none⟩ = some c3 ∧ w.cell? ⟨b, 4, none⟩ = some c4 ∧ w.cell? ⟨b, 5, none⟩ = some c5 ∧ w.cell? ⟨b, 6, none⟩ = some c6 ∧ w.frozen? ⟨b, 0, none⟩ = false ∧ w.frozen? ⟨b, 1, none⟩ = false ∧ w.frozen? ⟨b, 2, none⟩ = false ∧ w.frozen? ⟨b, 3, none⟩ = false ∧ w.frozen? ⟨b, 4, none⟩ = false ∧ w.frozen? ⟨b, 5, none⟩ = false ∧ w.frozen? ⟨b, 6, none⟩ = false ∧ b < w.heap.size :=
  ⟨h.cell 0 _ rfl, h.cell 1 _ rfl, h.cell 2 _ rfl, h.cell 3 _ rfl, h.cell 4 _ rfl, h.cell 5 _ rfl, h.cell 6 _ rfl, h.thaw 0, h.thaw 1, h.thaw 2, h.thaw 3, h.thaw 4, h.thaw 5, h.thaw 6, h.lt⟩
theorem Mm.lay8 {w0 w : World} {L : List (Nat × Array Value)} (h : Mm w0 w L) (k : Nat) {b : Nat} {c0 c1 c2 c3 c4 c5 c6 c7 : Value} (hk : L[k]? = some (b, #[c0, c1, c2, c3, c4, c5, c6, c7])) :
    w.cell? ⟨b, 0, none⟩ = some c0 ∧ w.cell? ⟨b, 1, none⟩ = some c1 ∧ w.cell? ⟨b, 2, none⟩ = some c2 ∧ w.cell? ⟨b, 3, none⟩ = some c3 ∧ w.cell? ⟨b, 4, none⟩ = some c4 ∧ w.cell? ⟨b, 5, none⟩ = some c5 ∧ w.cell? ⟨b, 6, none⟩ = some c6 ∧ w.cell? ⟨b, 7, none⟩ = some c7 ∧ w.frozen? ⟨b, 0, none⟩ = false ∧ w.frozen? ⟨b, 1, none⟩ = false ∧ w.frozen? ⟨b, 2, none⟩ = false ∧ w.frozen? ⟨b, 3, none⟩ = false ∧ w.frozen? ⟨b, 4, none⟩ = false ∧ w.frozen? ⟨b, 5, none⟩ = false ∧ w.frozen? ⟨b, 6, none⟩ = false ∧ w.frozen? ⟨b, 7, none⟩ = false ∧ b < w.heap.size :=
  ⟨h.get hk (i := 0) rfl, h.get hk (i := 1) rfl, h.get hk (i := 2) rfl, h.get hk (i := 3) rfl, h.get hk (i := 4) rfl, h.get hk (i := 5) rfl, h.get hk (i := 6) rfl, h.get hk (i := 7) rfl, h.cold hk 0, h.cold hk 1, h.cold hk 2, h.cold hk 3, h.cold hk 4, h.cold hk 5, h.cold hk 6, h.cold hk 7, h.lt hk⟩
theorem Holds.lay8 {w : World} {b : Nat} {c0 c1 c2 c3 c4 c5 c6 c7 : Value} (h : Holds w b #[c0, c1, c2, c3, c4, c5, c6, c7]) :
    w.cell? ⟨b, 0, none⟩ = some c0 ∧ w.cell? ⟨b, 1, none⟩ = some c1 ∧ w.cell? ⟨b, 2, none⟩ = some c2 ∧ w.cell? ⟨b, 3, none⟩ = some c3 ∧ w.cell? ⟨b, 4, none⟩ = some c4 ∧ w.cell? ⟨b, 5, none⟩ = some c5 ∧ w.cell? ⟨b, 6, none⟩ = some c6 ∧ w.cell? ⟨b, 7, none⟩ = some c7 ∧ w.frozen? ⟨b, 0, none⟩ = false ∧ w.frozen? ⟨b, 1, none⟩ = false ∧ w.frozen? ⟨b, 2, none⟩ = false ∧ w.frozen? ⟨b, 3, none⟩ = false ∧ w.frozen? ⟨b, 4, none⟩ = false ∧ w.frozen? ⟨b, 5, none⟩ = false ∧ w.frozen? ⟨b, 6, none⟩ = false ∧ w.frozen? ⟨b, 7, none⟩ = false ∧ b < w.heap.size :=
  ⟨h.cell 0 _ rfl, h.cell 1 _ rfl, h.cell 2 _ rfl, h.cell 3 _ rfl, h.cell 4 _ rfl, h.cell 5 _ rfl, h.cell 6 _ rfl, h.cell 7 _ rfl, h.thaw 0, h.thaw 1, h.thaw 2, h.thaw 3, h.thaw 4, h.thaw 5, h.thaw 6, h.thaw 7, h.lt⟩

/-- the worlds of a drawn region over wr -/
def Up (w0 wr : World) (L : List (Nat × Array Value)) (w : World) : Prop := Mm w0 w L ∧ wr.heap.size ≤ w.heap.size
theorem Up.start {w0 wr : World} {L : List (Nat × Array Value)} (h : Mm w0 wr L) : Up w0 wr L wr := ⟨h, Nat.le_refl _⟩
theorem Up.stable {w0 wr : World} {L : List (Nat × Array Value)} : Stable (Up w0 wr L) := fun _ _ h hb => ⟨h.1.call hb, Nat.le_trans h.2 hb.size⟩
theorem Up.set {w0 wr : World} {L : List (Nat × Array Value)} (hr : Mm w0 wr L) (w : World) (b i : Nat) (v : Value) (h : Up w0 wr L w) (hb : wr.heap.size ≤ b) : Up w0 wr L (w.setCell ⟨b, i, none⟩ v) :=
  ⟨h.1.away (Nat.le_trans hr.below.size hb) (fun x hx => by have := (hr.mem x hx).2.lt; omega) i v, by simpa using h.2⟩

/-- the condition with one block more -/
def With (S : World → Prop) (B b : Nat) (c : Array Value) (w : World) : Prop := S w ∧ Holds w b c ∧ B ≤ b
theorem With.stable {S : World → Prop} {B b : Nat} {c : Array Value} (hS : Stable S) : Stable (With S B b c) := fun _ _ ⟨h1, h2, h3⟩ hb => ⟨hS _ _ h1 hb, h2.keep hb, h3⟩
theorem With.mm {w0 wr w : World} {L : List (Nat × Array Value)} {b : Nat} {c : Array Value} (hr : Mm w0 wr L) (h : With (Up w0 wr L) wr.heap.size b c w) : Mm w0 w ((b, c) :: L) := by
  obtain ⟨⟨h1, h2⟩, h3, h4⟩ := h
  refine ⟨h1.below, fun x hx => ?_, List.Pairwise.cons (fun x hx => ?_) h1.dist⟩
  · rcases List.mem_cons.1 hx with rfl | hx
    · exact ⟨Nat.le_trans hr.below.size h4, h3⟩
    · exact h1.mem x hx
  · have := (hr.mem x hx).2.lt
    show b ≠ x.1
    omega

/-- lay a struct -/
theorem sRow_alloc {P : Program} {ops : Array Oper} {S T : World → Prop} {Q : Act → World → Prop} {a : Act} {o : Oper} {rest : List Oper} (B : Nat) (c : Array Value) (t : TypeId) (hS : Stable S) (hB : ∀ w, S w → B ≤ w.heap.size) (hTS : ∀ w, T w → S w) (hg : o.guard = none)
    (hr : ∀ w, (execOp a.eval o).run P w = .ok (.value (.pointer (some ⟨w.heap.size, 0, none⟩))) (w.alloc (.cells c t)))
    (hk : ∀ b, ∀ K : Act → Prop, (∀ a, sRow P ops S Q rest (With S B b c) a → K a) → K (a.put o.dst (.pointer (some ⟨b, 0, none⟩)))) : sRow P ops S Q (o :: rest) T a := by
  refine sRow_step (fun u w => ∃ b, u = .pointer (some ⟨b, 0, none⟩) ∧ With S B b c w) hg ?_ ?_ ?_ ?_
  · rintro u w w' ⟨b, rfl, h⟩ hb; exact ⟨b, rfl, With.stable hS _ _ h hb⟩
  · rintro u w ⟨b, rfl, h⟩; exact h.1
  · intro w hw
    rw [hr w]
    have hs := hTS w hw
    exact ⟨w.heap.size, rfl, hS _ _ hs (below_of_allocs _), Holds.new _ _ _, hB _ hs⟩
  · rintro u ⟨w, b, rfl, hw⟩ K hK
    refine hk b K fun a ha => hK a ?_
    have e : (fun w => ∃ b', (Value.pointer (some ⟨b, 0, none⟩)) = .pointer (some ⟨b', 0, none⟩) ∧ With S B b' c w) = With S B b c := by
      funext w
      refine propext ⟨?_, fun h => ⟨b, rfl, h⟩⟩
      rintro ⟨b', h, hw⟩
      cases h
      exact hw
    rw [e]
    exact ha

theorem Holds.setFrom {b : Nat} : ∀ (vs : List Value) (w : World) (i : Nat) (c : Array Value), Holds w b c →
    Holds (setAll w b i vs) b (vs.foldl (fun (p : Nat × Array Value) v => (p.1 + 1, p.2.setIfInBounds p.1 v)) (i, c)).2
  | [], _, _, _, h => h
  | v :: vs, _, i, _, h => Holds.setFrom vs _ (i + 1) _ (h.set i v)
theorem cond_setAll {S : World → Prop} {B b : Nat} (hSs : ∀ w b i x, S w → B ≤ b → S (w.setCell ⟨b, i, none⟩ x)) (hb : B ≤ b) : ∀ (vs : List Value) (w : World) (i : Nat), S w → S (setAll w b i vs)
  | [], _, _, h => h
  | _ :: vs, _, i, h => cond_setAll hSs hb vs _ (i + 1) (hSs _ _ _ _ h hb)

/-- store a struct; c: what the block held, vs: what it holds then -/
theorem sRow_store {P : Program} {ops : Array Oper} {S : World → Prop} {Q : Act → World → Prop} {a : Act} {o : Oper} {rest : List Oper} {B b : Nat} {c : Array Value} (vs : List Value) (hS : Stable S)
    (hSs : ∀ w b i x, S w → B ≤ b → S (w.setCell ⟨b, i, none⟩ x)) (hs : (vs.foldl (fun (p : Nat × Array Value) v => (p.1 + 1, p.2.setIfInBounds p.1 v)) (0, c)).2 = vs.toArray) (hg : o.guard = none)
    (hr : ∀ w, Holds w b c → (execOp a.eval o).run P w = .ok .skip (setAll w b 0 vs))
    (hk : ∀ K : Act → Prop, (∀ a, sRow P ops S Q rest (With S B b vs.toArray) a → K a) → K (a.put o.dst undef)) : sRow P ops S Q (o :: rest) (With S B b c) a := by
  refine sRow_step (fun u w => u = undef ∧ With S B b vs.toArray w) hg ?_ ?_ ?_ ?_
  · rintro u w w' ⟨rfl, h⟩ hb; exact ⟨rfl, With.stable hS _ _ h hb⟩
  · rintro u w ⟨rfl, h⟩; exact h.1
  · rintro w ⟨h1, h2, h3⟩
    rw [hr w h2]
    have := h2.setFrom vs w 0 c
    rw [hs] at this
    exact ⟨rfl, cond_setAll hSs h3 _ _ _ h1, this, h3⟩
  · rintro u ⟨w, rfl, hw⟩ K hK
    refine hk K fun a ha => hK a ?_
    have e : (fun w => undef = undef ∧ With S B b vs.toArray w) = With S B b vs.toArray := by
      funext w; exact propext ⟨fun h => h.2, fun h => ⟨rfl, h⟩⟩
    rw [e]
    exact ha

/-- block 0 of the list as an array of the walk's frame: entering a function that boxes its arguments -/
theorem Mm.box {w : World} (c : Array Value) (t : TypeId) : Mm w (w.alloc (.cells c t)) [(w.heap.size, c)] := (Mm.start w).push _ _ _ rfl



end Go.Proofs.Ytpkgcklnknbbcaa
