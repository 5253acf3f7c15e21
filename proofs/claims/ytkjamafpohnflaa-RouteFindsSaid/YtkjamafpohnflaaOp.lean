/- Slices of numbers from the form. -/
import Derived.Test.YtkjamafpohnflaaMem
import Derived.ProofKit
import Derived.Deep.Matrix
import Derived.SizedLaws
set_option linter.unusedVariables false
set_option linter.unusedSimpArgs false
set_option linter.unnecessarySimpa false
namespace Go.Mem
open Go.ChangeShapes Go.WideShapes Go.ChangeAt Go.RowKit Go.Deep
section
variable {H : Type} {enc : TypeId × Value → H} {P : Program} {w : World} {base : Nat} {held : Bool}
theorem elems_of {a : Addr} {n cap : Nat} {xs : List Value} (hl : xs.length = n) (h1 : n ≤ cap) (h2 : cap ≤ maxLen) (h3 : n ≤ 140737488351232) (hc : ∀ i, i < n → w.cell? (a.add i) = xs[i]?) :
    Elems w (.slice (some a) n cap) xs := by
  subst hl
  refine ⟨some a, cap, rfl, h1, h2, h3, ?_⟩
  by_cases h0 : xs.length = 0
  · exact .inl (List.eq_nil_of_length_eq_zero h0)
  · have e0 : ∃ v, xs[0]? = some v := ⟨xs[0]'(by omega), by simp [show 0 < xs.length by omega]⟩
    obtain ⟨v, hv⟩ := e0
    have c0 := (hc 0 (by omega)).trans hv
    obtain ⟨b, off, spot⟩ := a
    have hspot : spot = none := by simpa [Addr.add] using World.cell?_spot c0
    subst hspot
    refine .inr ⟨b, off, rfl, ?_, fun i hi => ?_⟩
    · have := World.block_lt_of_cell? w _ c0
      simpa [Addr.add] using this
    · rw [← hc i hi]
      congr 1
      unfold Addr.add
      split
      · subst_vars; rfl
      · rfl
theorem ints_of_trod {t e : TypeId} (ht : P.underlying t = some (.slice e)) (he : P.underlying e = some (.int .i64)) (ce : P.cellsOf e = 1) (be : P.bytesOf e = 8)
    {a : Option Addr} {len cap : Nat} {d : DataW H} {ps : List MemPlace} (h : DataW.Trod enc P w base (fun _ => true) held t (.slice a len cap) d ps) (hs : ∀ n ∈ d.weights P t, n ≤ reachBytes) :
    ∃ l : List Int, Elems w (.slice a len cap) (l.map (.int .i64)) ∧ (∀ x ∈ l, (Lit.int .i64 x).wf = true) ∧ l.length = len := by
  obtain ⟨fuel, hf⟩ := h
  rcases open_ints ht he ce hf with ⟨hcs, _⟩ | ⟨x, l, c, zs, hcs, _, hl, hm, hz, hx, hcell, hwz⟩
  · simp [Value.cells] at hcs
    obtain ⟨rfl, rfl, rfl⟩ := hcs
    exact ⟨[], ⟨none, 0, rfl, Nat.le_refl _, by simp [maxLen], by simp, .inl rfl⟩, by simp, rfl⟩
  · simp [Value.cells] at hcs
    obtain ⟨rfl, rfl, rfl⟩ := hcs
    simp only [if_true] at hz
    simp only [Prod.mk.injEq] at hx
    obtain ⟨rfl, _⟩ := hx
    have := hs (((lits (H := H) .i64 (zs.take len)).length + (lits (H := H) .i64 (zs.drop len)).length) * P.bytesOf e) (by simp [DataW.weights, ht])
    rw [be] at this
    simp [lits, reachBytes] at this
    refine ⟨zs.take len, elems_of (by simp; omega) hl hm (by omega) (fun i hi => ?_), fun x hx => hwz x (List.mem_of_mem_take hx), by simp; omega⟩
    rw [hcell i (by omega)]
    have hil : i < zs.length := by omega
    simp [hi, hil]
end
end Go.Mem
