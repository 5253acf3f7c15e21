/- Sorting rows of one's own in place. -/
import Derived.Test.YthljjllcdocfiaaB2
import Derived.Test.YthljjllcdocfiaaSh
set_option linter.unusedVariables false
set_option linter.unusedSimpArgs false
set_option linter.unnecessarySimpa false
namespace Go.Proofs.Ythljjllcdocfiaa
open Go Go.RowKit Go.MapKept Go.Sort Go.Shelf Go.Lib

theorem only_put {β : Type} [Inhabited β] (enc : β → Value) (w : World) (g off q : Nat) (d : Array β) (os : Array Obj) : Only [g] w (grow (putRow enc (Sort.ahead w q) g off d) os) := by
  refine ⟨rfl, rfl, rfl, ?_, fun k hk hg => ?_⟩
  · simp [grow, putRow, mapBlock, Sort.ahead]
  · have hne : ¬ g = k := fun e => hg (by simp [e])
    have h1 : k < (putRow enc (Sort.ahead w q) g off d).heap.size := by simp [putRow, mapBlock, Sort.ahead]; exact hk
    rw [heap_grow_old _ _ h1]
    simp [putRow, mapBlock, Sort.ahead, Array.getElem?_modify, hne]
section
variable {α : Type} {E : Enc α} {e : TypeId} {w0 w : World} {g n c : Nat} {l : List α}
theorem ow_holds {β : Type} [Inhabited β] (enc : β → Value) (d : Array β) (hk : E.k = 1) (hf : E.flat l = d.toList.map enc) (h : Ow E e w0 w (.slice (some ⟨g, 0, none⟩) n c) l) : Go.Sort.Holds enc w g 0 d := by
  intro j hj
  have hr := h.row
  obtain ⟨hlen, h2⟩ := hr
  rcases h2 with ⟨h0, _⟩ | ⟨g', cap', cur, he, _, hg, _⟩
  · cases h0
  · cases he
    have hc := h.row.cells rfl j (enc d[j]!) (by rw [hf]; simp [hj])
    rw [add_off] at hc
    refine ⟨hc, ?_⟩
    simp [World.frozen?, hg]
theorem ow_put {β : Type} [Inhabited β] (enc : β → Value) (d : Array β) (hk : E.k = 1) {L : List α} (hf : E.flat L = d.toList.map enc) (hL : L.length = l.length) (h : Ow E e w0 w (.slice (some ⟨g, 0, none⟩) n c) l) (q : Nat) (os : Array Obj) :
    Ow E e w0 (grow (putRow enc (Sort.ahead w q) g 0 d) os) (.slice (some ⟨g, 0, none⟩) n c) L := by
  have ho := only_put enc w g 0 q d os
  obtain rfl : n = l.length := by obtain ⟨a, cp, q⟩ := h.val; cases q; rfl
  have hr := h.row
  obtain ⟨hlen, h2⟩ := hr
  have hds : d.size = L.length := by
    have := congrArg List.length hf
    rw [flat_len, hk] at this
    simp at this
    omega
  rcases h2 with ⟨h0, _⟩ | ⟨g', cap', cur, he, hB, hg, h1, h2, h3, h4⟩
  · cases h0
  · cases he
    have hgl := (Array.getElem?_eq_some_iff.1 hg).1
    refine ⟨h.below.trans (ho.below (fun s hs => by rw [List.mem_singleton.1 hs]; exact hB) h.below.size), ⟨by rw [flat_len], .inr ⟨g, c, putCells enc 0 d cur, by rw [hL], hB, ?_, by rw [hL]; exact h1, h2, by simpa [putCells] using h3, ?_⟩⟩, fun t ht => by cases ht⟩
    · rw [heap_grow_old _ _ (by simp [putRow, mapBlock, Sort.ahead]; exact hgl)]
      simp [putRow, mapBlock, Sort.ahead, Array.getElem?_modify, hg, onCells]
    · rw [hk, Nat.mul_one, hf]
      refine List.ext_getElem? fun j => ?_
      rw [List.getElem?_take]
      by_cases hj : j < L.length
      · have hjc : j < cur.size := by rw [hk] at h3; omega
        rw [if_pos hj]
        simp [putCells, hjc, hds, hj]
      · rw [if_neg hj, List.getElem?_eq_none (by simp; omega)]
end
theorem flat_map1 {α β : Type} (f : α → β) (l : List α) : l.flatMap (fun x => [f x]) = l.map f := by induction l <;> simp_all
/-- slices.Sort of numbers -/
theorem sort_ints {w0 w : World} {p : Option Addr} {n c : Nat} {l : List Int} (h : Ow eI 3 w0 w (.slice p n c) l) (hl : l.length ≤ 1000000) :
    Calls Try.prog 36 #[.slice p n c] w fun e w' => e = .returned (.tuple #[]) ∧ Ow eI 3 w0 w' (.slice p n c) (l.mergeSort fun x y => decide (x ≤ y)) := by
  obtain rfl : n = l.length := by obtain ⟨a, cp, q⟩ := h.val; cases q; rfl
  rcases p with _ | a
  · obtain ⟨h0, rfl, rfl⟩ := h.bare
    refine (AnyM.slices_Sort_int_none sortA none 0 w).mono ?_
    rintro e w' ⟨rfl, rfl⟩
    exact ⟨rfl, by simpa using h⟩
  · obtain ⟨_, _, h3, h4⟩ := h.cap
    obtain ⟨b, off, sp⟩ := a
    simp only at h3 h4
    subst h3 h4
    have hH := ow_holds (Value.int .i64) l.toArray rfl (show eI.flat l = l.toArray.toList.map (Value.int .i64) by simp [Enc.flat, eI, flat_map1]) h
    refine (AnyM.slices_Sort_int sortA b 0 c l w hH ((h.row.lt b rfl).2) (by omega)).mono ?_
    rintro e w' ⟨rfl, q, os, rfl⟩
    exact ⟨rfl, ow_put (Value.int .i64) _ rfl (by simp [Enc.flat, eI, flat_map1]) (List.length_mergeSort _) h q os⟩
end Go.Proofs.Ythljjllcdocfiaa
