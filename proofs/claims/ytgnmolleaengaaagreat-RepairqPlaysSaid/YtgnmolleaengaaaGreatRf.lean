/- What a method of the queue may turn: blocks of the queue's own types from B on. -/
import Derived.Test.YtgnmolleaengaaaGreatRe
set_option linter.unusedVariables false
set_option linter.unusedSimpArgs false
set_option linter.unnecessarySimpa false
namespace Go.Proofs.YtgnmolleaengaaaGreat
open Go Go.RowKit

/-- only blocks of type 68 and 76, from B on, may have turned; types stay -/
structure Qt (B : Nat) (w w' : World) : Prop where
  os : w'.os = w.os
  tape : w'.tape = w.tape
  output : w'.output = w.output
  size : w.heap.size ≤ w'.heap.size
  block : ∀ k, k < w.heap.size → (k < B ∨ (¬ TyB w k 68 ∧ ¬ TyB w k 76)) → w'.heap[k]? = w.heap[k]?
  ty : ∀ k t, t ≠ 76 → TyB w k t → TyB w' k t
namespace Qt
variable {B : Nat} {w w1 w2 w' : World}
theorem refl (B : Nat) (w : World) : Qt B w w := ⟨rfl, rfl, rfl, Nat.le_refl _, fun _ _ _ => rfl, fun _ _ _ h => h⟩
theorem trans (h : Qt B w w1) (h2 : Qt B w1 w2) : Qt B w w2 := by
  refine ⟨h2.os.trans h.os, h2.tape.trans h.tape, h2.output.trans h.output, Nat.le_trans h.size h2.size, fun k hk hn => ?_, fun k t h6 ht => h2.ty k t h6 (h.ty k t h6 ht)⟩
  have e := h.block k hk hn
  refine (h2.block k (Nat.lt_of_lt_of_le hk h.size) ?_).trans e
  rcases hn with hn | ⟨n1, n2⟩
  · exact .inl hn
  · exact .inr ⟨fun q => n1 (q.same e.symm), fun q => n2 (q.same e.symm)⟩
theorem of_below (h : Below w.heap.size w w') (B : Nat) : Qt B w w' := ⟨h.os, h.tape, h.output, h.size, fun k hk _ => h.block k hk, fun k t _ ht => ht.keep h⟩
theorem keep (h : Qt B w w1) (hb : Below w1.heap.size w1 w2) : Qt B w w2 := h.trans (of_below hb B)
theorem below (h : Qt B w w') (hB : B ≤ w.heap.size) : Below B w w' := ⟨h.os, h.tape, h.output, h.size, fun k hk => h.block k (by omega) (.inl hk)⟩
theorem set (h : Qt B w w1) {b : Nat} (hb : TyB w1 b 76 ∨ TyB w1 b 68) (hB : B ≤ b) (i : Nat) (v : Value) : Qt B w (w1.setCell ⟨b, i, none⟩ v) := by
  refine h.trans ⟨rfl, rfl, rfl, by simp, fun k hk hn => ?_, fun k t _ ht => ht.setCell i v⟩
  refine Below.heap_setCell _ _ _ _ fun e => ?_
  have e : b = k := e.symm
  subst e
  rcases hn with hn | ⟨n1, n2⟩
  · omega
  · rcases hb with hb | hb
    · exact n2 hb
    · exact n1 hb
theorem only (h : Qt B w w1) {S : List Nat} (ho : Only S w1 w2) (hS : ∀ s ∈ S, (TyB w1 s 76 ∨ TyB w1 s 68) ∧ B ≤ s) (hT : ∀ s ∈ S, ∀ t, t ≠ 76 → TyB w1 s t → TyB w2 s t) : Qt B w w2 := by
  refine h.trans ⟨ho.os, ho.tape, ho.output, ho.size, fun k hk hn => ho.block k hk fun hm => ?_, fun k t h6 ht => ?_⟩
  · obtain ⟨h1, h2⟩ := hS k hm
    rcases hn with hn | ⟨n1, n2⟩
    · omega
    · rcases h1 with h1 | h1
      · exact n2 h1
      · exact n1 h1
  · by_cases hm : k ∈ S
    · exact hT k hm t h6 ht
    · exact ht.same (ho.block k ht.lt hm)
/-- a row that is newer than w grows -/
theorem grown (h : Qt B w w1) {r : Option Nat} (hg : w1.grownBy w2 r) (hr : ∀ k, r = some k → w.heap.size ≤ k) : Qt B w w2 := by
  refine ⟨hg.os.trans h.os, hg.tape.trans h.tape, hg.output.trans h.output, Nat.le_trans h.size hg.size, fun k hk hn => ?_, fun k t h6 ht => ?_⟩
  · exact (hg.block k (Nat.lt_of_lt_of_le hk h.size) fun e => by have := hr k e.symm; omega).trans (h.block k hk hn)
  · have hk := ht.lt
    have h1 := h.ty k t h6 ht
    exact h1.same (hg.block k h1.lt fun e => by have := hr k e.symm; omega)
theorem alloc (h : Qt B w w1) (o : Obj) : Qt B w (w1.alloc o) := h.keep (below_alloc _ _)
end Qt

section
variable {α : Type} {E : Enc α} {t : TypeId} {w w' : World} {v : Value} {l : List α}
theorem Rt.only {S : List Nat} (h : Rt E t w v l) (ho : Only S w w') (hS : ∀ s ∈ S, ∃ u, TyB w s u ∧ u ≠ t) : Rt E t w' v l := by
  obtain ⟨⟨a, cap, rfl, hl, hc⟩, hty⟩ := h
  have hne : ∀ k, TyB w k t → k ∉ S := fun k hk hs => by
    obtain ⟨u, hu, hne⟩ := hS k hs
    exact hne (hu.uniq hk)
  refine ⟨⟨a, cap, rfl, hl, ?_⟩, fun k hk => (hty k hk).same (ho.block k (hty k hk).lt (hne k (hty k hk)))⟩
  rcases hc with hc | ⟨b, off, rfl, hlt, hc⟩
  · exact .inl hc
  · have hb := hty b rfl
    exact .inr ⟨b, off, rfl, Nat.lt_of_lt_of_le hlt ho.size, fun j u hu => (World.cell?_of_block (a := ⟨b, off + j, none⟩) (ho.block b hlt (hne b hb))).trans (hc j u hu)⟩
theorem Rt.qt {B : Nat} (h : Rt E t w v l) (hq : Qt B w w') (h55 : t ≠ 68) (h60 : t ≠ 76) : Rt E t w' v l := by
  obtain ⟨⟨a, cap, rfl, hl, hc⟩, hty⟩ := h
  have hbl : ∀ k, TyB w k t → w'.heap[k]? = w.heap[k]? := fun k hk => hq.block k hk.lt (.inr ⟨fun q => h55 (hk.uniq q), fun q => h60 (hk.uniq q)⟩)
  refine ⟨⟨a, cap, rfl, hl, ?_⟩, fun k hk => hq.ty k t h60 (hty k hk)⟩
  rcases hc with hc | ⟨b, off, rfl, hlt, hc⟩
  · exact .inl hc
  · exact .inr ⟨b, off, rfl, Nat.lt_of_lt_of_le hlt hq.size, fun j u hu => (World.cell?_of_block (a := ⟨b, off + j, none⟩) (hbl b (hty b rfl))).trans (hc j u hu)⟩
theorem Rt.grown {u : Value} {B e s n : Nat} {xs : List Value} (h : Rt E t w v l) (ho : w.ownsRow B e s u n xs) (he : e ≠ t) (hg : w.grownBy w' u.ownBlock) : Rt E t w' v l := by
  obtain ⟨S, hS, hT⟩ := owns_only ho hg
  exact h.only hS fun k hk => ⟨e, (hT k hk).1, he⟩
theorem Rt.nil (E : Enc α) (t : TypeId) (w : World) : Rt E t w (.slice none 0 0) [] := ⟨Rd.nil w none 0 (by omega), fun k hk => by cases hk⟩
end
theorem Ru.qt {B : Nat} {w w' : World} {v : Value} {l : List Nat} (h : Ru w v l) (hq : Qt B w w') : Ru w' v l := by
  have := (show Rt eU 94 w v l from ⟨h.rd, h.ty⟩).qt hq (by decide) (by decide)
  exact ⟨this.rd, this.ty⟩

/-- an owned row, as of a world that has only the blocks below B -/
def cut (B : Nat) (w : World) : World := { w with heap := w.heap.extract 0 B }
theorem cut_size {B : Nat} {w : World} (h : B ≤ w.heap.size) : (cut B w).heap.size = B := by simp [cut]; omega
theorem cut_below {B : Nat} {w : World} (h : B ≤ w.heap.size) : Below (cut B w).heap.size (cut B w) w := by
  refine ⟨rfl, rfl, rfl, by rw [cut_size h]; exact h, fun k hk => ?_⟩
  rw [cut_size h] at hk
  simp [cut, Array.getElem?_extract, hk]
  intro hm
  omega
theorem ow_cut {α : Type} {E : Enc α} {e : TypeId} {B : Nat} {w : World} {v : Value} {l : List α} (h : w.ownsRow B e E.k v l.length (E.flat l)) (hB : B ≤ w.heap.size) : Ow E e (cut B w) w v l :=
  ⟨cut_below hB, by rw [cut_size hB]; exact h, fun t ht => by cases ht⟩

theorem flat_set {α : Type} {E : Enc α} {x x' : α} {j : Nat} {u : Value} (hj : j < E.k) (hf : E.f x' = (E.f x).set j u) : ∀ (L : List α) (i : Nat), L[i]? = some x → E.flat (L.set i x') = (E.flat L).set (i * E.k + j) u
  | [], _, h => by simp at h
  | y :: L, 0, h => by
    simp at h
    subst h
    rw [List.set_cons_zero, flat_cons, flat_cons, hf, Nat.zero_mul, Nat.zero_add, List.set_append_left _ _ (by rw [E.len]; exact hj)]
  | y :: L, i + 1, h => by
    rw [List.set_cons_succ, flat_cons, flat_cons, List.set_append_right _ _ (by rw [E.len, Nat.succ_mul]; omega), flat_set hj hf L i (by simpa using h), E.len, show (i + 1) * E.k + j - E.k = i * E.k + j by rw [Nat.succ_mul]; omega]

namespace Qp
variable {B qb : Nat} {slots : Int} {L : List En} {w w' : World}
/-- another row grows -/
theorem grown {u : Value} {B' e s n : Nat} {xs : List Value} (h : Qp B qb slots L w) (ho : w.ownsRow B' e s u n xs) (h5 : e ≠ 68) (h6 : e ≠ 76) (h7 : e ≠ 94) (hg : w.grownBy w' u.ownBlock) : Qp B qb slots L w' := by
  obtain ⟨S, hS, hT⟩ := owns_only ho hg
  have hq : qb ∉ S := fun q => h5 ((hT qb q).1.uniq h.ty)
  have hb := hS.block qb h.ty.lt hq
  obtain ⟨v, h1, h2⟩ := h.row
  refine ⟨(World.cell?_of_block (a := ⟨qb, 0, none⟩) hb).trans h.c0, ⟨v, (World.cell?_of_block (a := ⟨qb, 1, none⟩) hb).trans h1, owns_same h2 fun k hk => hS.block k (h2.lt k hk).2 fun q => h6 ((hT k q).1.uniq (owns_ty h2 hk))⟩, fun i => (World.frozen?_of_block (a := ⟨qb, i, none⟩) hb).trans (h.thaw i), h.ty.same hb, h.base, fun x hx => ⟨(h.frac x hx).1.grown ho h7 hg, (h.frac x hx).2.grown ho h7 hg⟩, h.ok⟩
/-- an entry's mark is turned -/
theorem mark {g n cap i : Nat} {x x' : En} {b : Bool} {j : Nat} (h : Qp B qb slots L w) (c1 : w.cell? ⟨qb, 1, none⟩ = some (.slice (some ⟨g, 0, none⟩) n cap)) (hn : L.length = n) (hx : L[i]? = some x) (hj : j < 9) (hf : eE.f x' = (eE.f x).set j (.bool b)) (hjj : x'.j = x.j) (hnum : x'.num = x.num) (hden : x'.den = x.den) :
    Qp B qb slots (L.set i x') (w.setCell ⟨g, i * 9 + j, none⟩ (.bool b)) := by
  obtain ⟨v, h1, h2⟩ := h.row
  rw [c1] at h1
  cases h1
  rw [hn] at h2
  obtain ⟨s1, s2⟩ := h2.stored (i * 9 + j) (.bool b)
  have hg := owns_ty h2 rfl
  have hne : g ≠ qb := fun e => by subst e; exact absurd (hg.uniq h.ty) (by decide)
  refine ⟨(World.cell?_setCell_other _ _ _ _ (by simp [hne])).trans h.c0, ⟨_, (World.cell?_setCell_other _ _ _ _ (by simp [hne])).trans c1, ?_⟩, h.thaw.setCell _ _, h.ty.setCell _ _, h.base, fun y hy => ?_, fun y hy => ?_⟩
  · rw [List.length_set, hn, flat_set (E := eE) hj hf L i hx]
    exact s1
  · rcases List.mem_or_eq_of_mem_set hy with hy | rfl
    · exact ⟨(h.frac y hy).1.set hg (by decide) _ _, (h.frac y hy).2.set hg (by decide) _ _⟩
    · have := h.frac x (List.mem_of_getElem? hx)
      rw [hjj, hnum, hden]
      exact ⟨this.1.set hg (by decide) _ _, this.2.set hg (by decide) _ _⟩
  · rcases List.mem_or_eq_of_mem_set hy with hy | rfl
    · exact h.ok y hy
    · rw [hjj]
      exact h.ok x (List.mem_of_getElem? hx)
end Qp
end Go.Proofs.YtgnmolleaengaaaGreat
