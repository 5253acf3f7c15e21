/- A slice of pairs from the form. -/
import Derived.Test.YtkjamafpohnflaaW6
import Derived.Test.YtkjamafpohnflaaOp
import Derived.Deep.Slices
import Derived.Lib.SmallJoins
import Derived.ChangeSame
set_option linter.unusedVariables false
set_option linter.unusedSimpArgs false
set_option linter.unnecessarySimpa false
namespace Go.Proofs.Ytkjamafpohnflaa
open Go Go.ChangeShapes Go.WideShapes Go.ChangeAt Go.RowKit Go.Deep Go.Joins
section
variable {H : Type} {enc : TypeId × Value → H} {w : World} {base : Nat} {held : Bool}
set_option maxRecDepth 20000 in
theorem pairs_of_trod {a : Option Addr} {len cap : Nat} {d : DataW H} {ps : List MemPlace} (h : DataW.Trod enc Try.prog w base (fun _ => true) held 45 (.slice a len cap) d ps) :
    ∃ l : List (Int × Int), PairsAt w (.slice a len cap) l ∧ ∀ p ∈ l, In64 p.1 ∧ In64 p.2 := by
  obtain ⟨fuel, hf⟩ := h
  rcases open_slice Try.underlying45 hf with ⟨hcs, _⟩ | ⟨x, l, c, m, n, D, Pl, hcs, _, hl, hm, hmm, _, hx⟩
  · simp [Value.cells] at hcs
    obtain ⟨rfl, rfl, rfl⟩ := hcs
    exact ⟨[], Seq.nil w 2 _, by simp⟩
  · simp [Value.cells] at hcs
    obtain ⟨rfl, rfl, rfl⟩ := hcs
    simp only [if_true] at hmm
    subst hmm
    unfold maxLen at hm
    have ce : Try.prog.cellsOf 47 = 2 := by kernel_rfl
    have ci : Try.prog.cellsOf 3 = 1 := by kernel_rfl
    rw [ce] at hx
    have key : ∀ i, ∃ e : Int × Int, (i < len → w.cell? (x.add (i * 2)) = some (.int .i64 e.1) ∧ w.cell? ((x.add (i * 2)).add 1) = some (.int .i64 e.2)) ∧ In64 e.1 ∧ In64 e.2 := fun i => by
      by_cases hi : i < len
      · obtain ⟨cs, hc, ht⟩ := hx i (by omega)
        obtain ⟨_, hcl, hat⟩ := World.cells?_some hc
        obtain ⟨y0, y1, n', he, _, h0, h1⟩ := trod_struct2 Try.underlying47 ht
        match cs, hcl with
        | [c0, c1], _ =>
          simp [ci] at h0 h1
          obtain ⟨k0, rfl, w0⟩ := one_int Try.underlying3 h0
          obtain ⟨k1, rfl, w1⟩ := one_int Try.underlying3 h1
          have a0 := hat 0 (by omega)
          have a1 := hat 1 (by omega)
          simp at a0 a1
          exact ⟨(k0, k1), fun _ => ⟨by simpa [Addr.add] using a0, a1⟩, w0, w1⟩
      · exact ⟨(0, 0), fun h => absurd h hi, by unfold In64; simp⟩
    let g : Nat → Int × Int := fun i => (key i).choose
    have hg : ∀ i, (i < len → w.cell? (x.add (i * 2)) = some (.int .i64 (g i).1) ∧ w.cell? ((x.add (i * 2)).add 1) = some (.int .i64 (g i).2)) ∧ In64 (g i).1 ∧ In64 (g i).2 := fun i => (key i).choose_spec
    clear_value g
    refine ⟨(List.range len).map g, ⟨some x, m, by simp, by simpa using hl, by simp; omega, fun i hi => ?_⟩, fun p hp => by obtain ⟨i, _, rfl⟩ := List.mem_map.1 hp; exact (hg i).2⟩
    simp at hi
    obtain ⟨g0, g1⟩ := (hg i).1 hi
    have hsp := spot_none (a := x) (by simpa using ((hg 0).1 (by omega)).1)
    have hb : (x.add (i * 2)).block = x.block ∧ (x.add (i * 2)).off = x.off + i * 2 := by
      unfold Addr.add
      split
      · rename_i h0; exact ⟨rfl, by rw [h0]; rfl⟩
      · exact ⟨rfl, rfl⟩
    have hsp2 : (x.add (i * 2)).spot = none := by unfold Addr.add; split <;> simp [hsp]
    obtain ⟨e1, e2, e3⟩ := at_addr hsp g0
    obtain ⟨-, -, q1⟩ := at_addr hsp2 g1
    rw [hb.1, hb.2] at q1
    have hgd : ((List.range len).map g).getD i (0, 0) = g i := by rw [List.getD_eq_getElem?_getD, List.getElem?_map, List.getElem?_range hi]; rfl
    refine ⟨x.block, x.off, by rw [← e1], e2, fun j u hu => ?_⟩
    dsimp only at hu
    rw [hgd] at hu
    match j, hu with
    | 0, hu => simp at hu; subst hu; simpa using e3
    | 1, hu => simp at hu; subst hu; exact q1
    | j + 2, hu => simp at hu
end
end Go.Proofs.Ytkjamafpohnflaa
