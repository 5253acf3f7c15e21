/- Slices of structs from the form, their cells told by a predicate. -/
import Derived.Test.YtgnmolleaengaaaGreatSq
import Derived.ChangeSame
set_option linter.unusedVariables false
set_option linter.unusedSimpArgs false
set_option linter.unnecessarySimpa false
namespace Go.Proofs.YtgnmolleaengaaaGreat
open Go Go.ChangeShapes Go.WideShapes Go.ChangeAt Go.RowKit Go.Deep Go.Joins
section
variable {H : Type} {enc : TypeId × Value → H} {w : World} {base : Nat} {held : Bool}
theorem open_rows1 {t et k fuel : Nat} {v : Value} {y : DataW H × List MemPlace} (ht : Tryz.prog.underlying t = some (.slice et)) (hk : Tryz.prog.cellsOf et = k) (h0 : 0 < k) {Good : List Value → Prop}
    (hel : ∀ {fuel : Nat} {cs : List Value} {y : DataW H × List MemPlace}, cs.length = k → DataW.trod enc Tryz.prog w base (fun _ => true) held fuel et cs = some y → Good cs) (hf : DataW.trod enc Tryz.prog w base (fun _ => true) held fuel t [v] = some y) :
    ∃ (a : Option Addr) (len cap : Nat) (f : Nat → List Value), v = .slice a len cap ∧ Seq w (.slice a len cap) k len f ∧ ∀ i, i < len → Good (f i) ∧ (f i).length = k := by
  rcases open_slice ht hf with ⟨hcs, _⟩ | ⟨x, len, cap, m, n, D, Pl, hcs, _, hl, hm, hmm, _, hx⟩
  · simp at hcs
    exact ⟨none, 0, 0, fun _ => [], hcs, ⟨none, 0, rfl, by omega, by omega, fun i hi => by omega⟩, fun i hi => by omega⟩
  · simp at hcs
    simp only [if_true] at hmm
    subst hmm
    unfold maxLen at hm
    rw [hk] at hx
    have key : ∀ i, ∃ cs : List Value, i < len → Good cs ∧ cs.length = k ∧ ∀ j, j < k → w.cell? ((x.add (i * k)).add j) = cs[j]? := fun i => by
      by_cases hi : i < len
      · obtain ⟨cs, hc, ht⟩ := hx i (by omega)
        obtain ⟨_, hcl, hat⟩ := World.cells?_some hc
        exact ⟨cs, fun _ => ⟨hel hcl ht, hcl, hat⟩⟩
      · exact ⟨[], fun h => absurd h hi⟩
    let g : Nat → List Value := fun i => (key i).choose
    have hg : ∀ i, i < len → Good (g i) ∧ (g i).length = k ∧ ∀ j, j < k → w.cell? ((x.add (i * k)).add j) = (g i)[j]? := fun i => (key i).choose_spec
    clear_value g
    refine ⟨some x, len, m, g, hcs, ⟨some x, m, rfl, hl, by omega, fun i hi => ?_⟩, fun i hi => ⟨(hg i hi).1, (hg i hi).2.1⟩⟩
    have hsp : x.spot = none := by
      obtain ⟨_, h2, h3⟩ := hg 0 (by omega)
      have h4 := h3 0 h0
      rw [List.getElem?_eq_getElem (by omega)] at h4
      have h5 := World.cell?_spot h4
      have e : (x.add (0 * k)).add 0 = x := by simp [Addr.add]
      rw [e] at h5
      exact h5
    have hb : (x.add (i * k)).block = x.block ∧ (x.add (i * k)).off = x.off + i * k := by
      unfold Addr.add
      split
      · rename_i h0; exact ⟨rfl, by rw [h0]; rfl⟩
      · exact ⟨rfl, rfl⟩
    have hsp2 : (x.add (i * k)).spot = none := by unfold Addr.add; split <;> simp [hsp]
    obtain ⟨_, h2, h3⟩ := hg i hi
    have h4 := h3 0 h0
    rw [List.getElem?_eq_getElem (by omega)] at h4
    obtain ⟨_, e2, _⟩ := at_addr hsp2 h4
    rw [hb.1] at e2
    have e1 : x = ⟨x.block, x.off, none⟩ := by obtain ⟨b, o, s⟩ := x; cases (show s = none from hsp); rfl
    refine ⟨x.block, x.off, by rw [← e1], e2, fun j u hu => ?_⟩
    have hj := (List.getElem?_eq_some_iff.1 hu).1
    have h5 := (h3 j (by omega)).trans hu
    obtain ⟨_, _, q⟩ := at_addr hsp2 h5
    rw [hb.1, hb.2] at q
    exact q
end
end Go.Proofs.YtgnmolleaengaaaGreat
