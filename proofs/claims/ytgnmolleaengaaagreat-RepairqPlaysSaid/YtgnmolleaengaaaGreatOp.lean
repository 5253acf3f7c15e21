/- Slices of structs from the form, their cells told by a predicate. -/
import Derived.Test.YtgnmolleaengaaaGreatSq
import Derived.ChangeSame
import Derived.Test.YtgnmolleaengaaaGreatJa
import Derived.WideShapes
set_option linter.unusedVariables false
set_option linter.unusedSimpArgs false
set_option linter.unnecessarySimpa false
namespace Go.Proofs.YtgnmolleaengaaaGreat
open Go Go.ChangeShapes Go.WideShapes Go.ChangeAt Go.RowKit Go.Deep Go.Joins
section
variable {H : Type} {enc : TypeId × Value → H} {w : World} {base : Nat} {held : Bool}
theorem open_rows1 {t et k fuel : Nat} {v : Value} {y : DataW H × List MemPlace} (ht : Tryz.prog.underlying t = some (.slice et)) (hk : Tryz.prog.cellsOf et = k) (h0 : 0 < k) {Good : List Value → Prop}
    (hel : ∀ {fuel : Nat} {cs : List Value} {y : DataW H × List MemPlace}, cs.length = k → DataW.trod enc Tryz.prog w base (fun _ => true) held fuel et cs = some y → Good cs) (hf : DataW.trod enc Tryz.prog w base (fun _ => true) held fuel t [v] = some y) :
    ∃ (a : Option Addr) (len cap : Nat) (f : Nat → List Value), v = .slice a len cap ∧ Seq w (.slice a len cap) k len f ∧ ∀ i, i < len → Good (f i) ∧ (f i).length = k := by
  rcases open_slice ht hf with ⟨hcs, _⟩ | ⟨x, len, cap, m, n, D, Pl, hcs, _, hl, hm, hmm, _, hx⟩
  · simp at hcs
    exact ⟨none, 0, 0, fun _ => [], hcs, ⟨none, 0, rfl, by omega, by omega, fun i hi => by omega⟩, fun i hi => by omega⟩
  · simp at hcs
    simp only [if_true] at hmm
    subst hmm
    unfold maxLen at hm
    rw [hk] at hx
    have key : ∀ i, ∃ cs : List Value, i < len → Good cs ∧ cs.length = k ∧ ∀ j, j < k → w.cell? ((x.add (i * k)).add j) = cs[j]? := fun i => by
      by_cases hi : i < len
      · obtain ⟨cs, hc, ht⟩ := hx i (by omega)
        obtain ⟨_, hcl, hat⟩ := World.cells?_some hc
        exact ⟨cs, fun _ => ⟨hel hcl ht, hcl, hat⟩⟩
      · exact ⟨[], fun h => absurd h hi⟩
    let g : Nat → List Value := fun i => (key i).choose
    have hg : ∀ i, i < len → Good (g i) ∧ (g i).length = k ∧ ∀ j, j < k → w.cell? ((x.add (i * k)).add j) = (g i)[j]? := fun i => (key i).choose_spec
    clear_value g
    refine ⟨some x, len, m, g, hcs, ⟨some x, m, rfl, hl, by omega, fun i hi => ?_⟩, fun i hi => ⟨(hg i hi).1, (hg i hi).2.1⟩⟩
    have hsp : x.spot = none := by
      obtain ⟨_, h2, h3⟩ := hg 0 (by omega)
      have h4 := h3 0 h0
      rw [List.getElem?_eq_getElem (by omega)] at h4
      have h5 := World.cell?_spot h4
      have e : (x.add (0 * k)).add 0 = x := by simp [Addr.add]
      rw [e] at h5
      exact h5
    have hb : (x.add (i * k)).block = x.block ∧ (x.add (i * k)).off = x.off + i * k := by
      unfold Addr.add
      split
      · rename_i h0; exact ⟨rfl, by rw [h0]; rfl⟩
      · exact ⟨rfl, rfl⟩
    have hsp2 : (x.add (i * k)).spot = none := by unfold Addr.add; split <;> simp [hsp]
    obtain ⟨_, h2, h3⟩ := hg i hi
    have h4 := h3 0 h0
    rw [List.getElem?_eq_getElem (by omega)] at h4
    obtain ⟨_, e2, _⟩ := at_addr hsp2 h4
    rw [hb.1] at e2
    have e1 : x = ⟨x.block, x.off, none⟩ := by obtain ⟨b, o, s⟩ := x; cases (show s = none from hsp); rfl
    refine ⟨x.block, x.off, by rw [← e1], e2, fun j u hu => ?_⟩
    have hj := (List.getElem?_eq_some_iff.1 hu).1
    have h5 := (h3 j (by omega)).trans hu
    obtain ⟨_, _, q⟩ := at_addr hsp2 h5
    rw [hb.1, hb.2] at q
    exact q
end
end Go.Proofs.YtgnmolleaengaaaGreat

/- Calls (structs of seven numbers) from the form. -/
namespace Go.Proofs.YtgnmolleaengaaaGreat
open Go Go.ChangeShapes Go.WideShapes Go.ChangeAt Go.RowKit Go.Deep Go.Joins

theorem of_seven {α : Type} {l : List α} (h : l.length = 7) : ∃ a b c d e f g, l = [a, b, c, d, e, f, g] := by
  match l, h with
  | [a, b, c, d, e, f, g], _ => exact ⟨a, b, c, d, e, f, g, rfl⟩
def GoodOp (cs : List Value) : Prop := ∃ o : Opc, cs = (oc o).toList ∧ OkOp o
theorem seven36 {H : Type} {enc : TypeId × Value → H} {w : World} {base : Nat} {held : Bool} {fuel : Nat} {cs : List Value} {y : DataW H × List MemPlace} (hl : cs.length = 7) (h : DataW.trod enc Tryz.prog w base (fun _ => true) held fuel 23 cs = some y) : GoodOp cs := by
  obtain ⟨xs, n, _, rfl, _, hlen, hf⟩ := DataW.trod_struct Tryz.underlying23 h
  have c3 : Tryz.prog.cellsOf 3 = 1 := by kernel_rfl
  obtain ⟨a0, a1, a2, a3, a4, a5, a6, rfl⟩ := of_seven hl
  obtain ⟨y0, y1, y2, y3, y4, y5, y6, rfl⟩ := of_seven (hlen.trans rfl)
  have h0 := hf 0 _ rfl
  have h1 := hf 1 _ rfl
  have h2 := hf 2 _ rfl
  have h3 := hf 3 _ rfl
  have h4 := hf 4 _ rfl
  have h5 := hf 5 _ rfl
  have h6 := hf 6 _ rfl
  simp [c3] at h0 h1 h2 h3 h4 h5 h6
  obtain ⟨n0, rfl, w0⟩ := one_int Tryz.underlying3 h0
  obtain ⟨n1, rfl, w1⟩ := one_int Tryz.underlying3 h1
  obtain ⟨n2, rfl, w2⟩ := one_int Tryz.underlying3 h2
  obtain ⟨n3, rfl, w3⟩ := one_int Tryz.underlying3 h3
  obtain ⟨n4, rfl, w4⟩ := one_int Tryz.underlying3 h4
  obtain ⟨n5, rfl, w5⟩ := one_int Tryz.underlying3 h5
  obtain ⟨n6, rfl, w6⟩ := one_int Tryz.underlying3 h6
  exact ⟨⟨n0, n1, n2, n3, n4, n5, n6⟩, rfl, w1, w2, w3, w4, w5, w6⟩

theorem open_op {H : Type} {enc : TypeId × Value → H} {w : World} {base : Nat} {held : Bool} {v : Value} {d : DataW H} {ps : List MemPlace} (hv : ∃ cs, v = .agg cs ∧ cs.size = Tryz.prog.cellsOf 23) (h : DataW.Trod enc Tryz.prog w base (fun _ => true) held 23 v d ps) : ∃ o : Opc, v = ov o ∧ OkOp o := by
  obtain ⟨fuel, hf0⟩ := h
  obtain ⟨⟨cs⟩, rfl, hsz⟩ := hv
  have c36 : Tryz.prog.cellsOf 23 = 7 := by kernel_rfl
  rw [c36] at hsz
  simp at hsz
  obtain ⟨o, e, ho⟩ := seven36 (by simpa [Value.cells] using hsz) hf0
  simp [Value.cells] at e
  subst e
  exact ⟨o, rfl, ho⟩
theorem open_ops {H : Type} {enc : TypeId × Value → H} {w : World} {base : Nat} {held : Bool} {a : Option Addr} {len cap : Nat} {d : DataW H} {ps : List MemPlace} (h : DataW.Trod enc Tryz.prog w base (fun _ => true) held 51 (.slice a len cap) d ps) :
    ∃ F : Nat → Opc, Seq w (.slice a len cap) 7 len (fun i => (oc (F i)).toList) ∧ ∀ i, i < len → OkOp (F i) := by
  obtain ⟨fuel, hf⟩ := h
  obtain ⟨a', len', cap', f, e, hs, hg⟩ := open_rows1 (Good := GoodOp) Tryz.underlying51 (by kernel_rfl) (by decide) (fun hl h => seven36 hl h) hf
  cases e
  have key : ∀ i, ∃ o : Opc, i < len → f i = (oc o).toList ∧ OkOp o := fun i => by
    by_cases hi : i < len
    · obtain ⟨o, e, ho⟩ := (hg i hi).1
      exact ⟨o, fun _ => ⟨e, ho⟩⟩
    · exact ⟨⟨0, 0, 0, 0, 0, 0, 0⟩, fun h => absurd h hi⟩
  let g : Nat → Opc := fun i => (key i).choose
  have hgg : ∀ i, i < len → f i = (oc (g i)).toList ∧ OkOp (g i) := fun i => (key i).choose_spec
  clear_value g
  obtain ⟨a2, cap2, hv, h1, h2, h3⟩ := hs
  refine ⟨g, ⟨a2, cap2, hv, h1, h2, fun i hi => ?_⟩, fun i hi => (hgg i hi).2⟩
  have := h3 i hi
  rw [(hgg i hi).1] at this
  exact this
end Go.Proofs.YtgnmolleaengaaaGreat
