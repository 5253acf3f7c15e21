/- From the form's reading of an argument to a slice of fragments. -/
import Derived.Test.YtojfeldafbabeaaFr
import Derived.Test.YtojfeldafbabeaaOpen
import Derived.Deep.Slices
import Derived.Lib.SmallJoins
import Derived.ChangeSame
set_option linter.unusedVariables false
set_option linter.unusedSimpArgs false
set_option linter.unnecessarySimpa false
namespace Go.Proofs.Ytojfeldafbabeaa
open Go.ChangeShapes Go.WideShapes Go.ChangeAt Go.RowKit Go.Deep Go.Joins Go.Mem
section
variable {H : Type} {enc : TypeId × Value → H} {w : World} {base : Nat} {held : Bool}

theorem of_int {t : TypeId} {fuel : Nat} {v : Value} {y : DataW H × List MemPlace} (ht : Try.prog.underlying t = some (.int .i64)) (h : DataW.trod enc Try.prog w base (fun _ => true) held fuel t [v] = some y) : ∃ n, v = .int .i64 n := by
  obtain ⟨n, e, _, hw⟩ := DataW.trod_int ht h
  simp at e
  exact ⟨n, e⟩
theorem of_bytes {fuel : Nat} {v : Value} {y : DataW H × List MemPlace} (h : DataW.trod enc Try.prog w base (fun _ => true) held fuel 31 [v] = some y) (hs : ∀ n ∈ y.1.weights Try.prog 31, n ≤ reachBytes) : ∃ l, Bytes w v l := by
  rcases open_slice Try.underlying31 h with ⟨hcs, _⟩ | ⟨x, l, c, m, n, D, Pl, hcs, _⟩
  · simp at hcs
    subst hcs
    exact ⟨[], Bytes.nil w⟩
  · simp at hcs
    subst hcs
    exact bytes_of_trod (d := y.1) (ps := y.2) Try.underlying31 Try.underlying5 (by kernel_rfl) (by kernel_rfl) ⟨fuel, by simpa [Value.cells] using h⟩ hs

theorem spot_none' {a : Addr} {v : Value} (h : w.cell? (a.add 0) = some v) : a.spot = none := by
  have := World.cell?_spot h
  simpa [Addr.add] using this
theorem at_addr' {a : Addr} {i : Nat} {v : Value} (hs : a.spot = none) (h : w.cell? (a.add i) = some v) : a = ⟨a.block, a.off, none⟩ ∧ a.block < w.heap.size ∧ w.cell? ⟨a.block, a.off + i, none⟩ = some v := by
  have hl := World.block_lt_of_cell? w _ h
  obtain ⟨b, off, spot⟩ := a
  have hs' : spot = none := hs
  subst hs'
  have e : (⟨b, off, none⟩ : Addr).add i = ⟨b, off + i, none⟩ := by
    unfold Addr.add
    split
    · rename_i h0; subst h0; rfl
    · rfl
  rw [e] at hl h
  exact ⟨rfl, hl, h⟩

theorem frags_of_trod {a : Option Addr} {len cap : Nat} {d : DataW H} {ps : List MemPlace} (h : DataW.Trod enc Try.prog w base (fun _ => true) held 34 (.slice a len cap) d ps) (hs : ∀ n ∈ d.weights Try.prog 34, n ≤ reachBytes) : ∃ fs : List Frag, Frags w (.slice a len cap) fs := by
  obtain ⟨fuel, hf⟩ := h
  rcases open_slice Try.underlying34 hf with ⟨hcs, _⟩ | ⟨x, l, c, m, n, D, Pl, hcs, _, hl, hm, hmm, hxx, hx⟩
  · simp [Value.cells] at hcs
    obtain ⟨rfl, rfl, rfl⟩ := hcs
    exact ⟨[], Frags.nil w⟩
  · simp [Value.cells] at hcs
    obtain ⟨rfl, rfl, rfl⟩ := hcs
    simp only [if_true] at hmm
    subst hmm
    simp only [Prod.mk.injEq] at hxx
    obtain ⟨rfl, _⟩ := hxx
    have ce : Try.prog.cellsOf 36 = 2 := by kernel_rfl
    have ci : Try.prog.cellsOf 3 = 1 := by kernel_rfl
    have cs1 : Try.prog.cellsOf 31 = 1 := by kernel_rfl
    have be : Try.prog.bytesOf 36 = 32 := by kernel_rfl
    rw [ce] at hx
    have hlen : len ≤ 140737488351232 := by
      have h0 := hs ((((List.range len).map D).length + ((List.range (m - len)).map fun j => D (len + j)).length) * Try.prog.bytesOf 36) (by simp [DataW.weights, Try.underlying34])
      rw [be] at h0
      simp [reachBytes] at h0
      omega
    have key : ∀ i, ∃ e : Frag × Value, i < len → w.cell? (x.add (i * 2)) = some (.int .i64 e.1.1) ∧ w.cell? ((x.add (i * 2)).add 1) = some e.2 ∧ Bytes w e.2 e.1.2 := fun i => by
      by_cases hi : i < len
      · obtain ⟨cs, hc, ht⟩ := hx i (by omega)
        obtain ⟨_, hcl, hat⟩ := World.cells?_some hc
        obtain ⟨y0, y1, n', he, _, h0, h1⟩ := trod_struct2 Try.underlying36 ht
        match cs, hcl with
        | [c0, c1], _ =>
          simp [ci] at h0
          simp [cs1] at h1
          obtain ⟨k, rfl⟩ := of_int Try.underlying3 h0
          have hsz : ∀ n ∈ y1.1.weights Try.prog 31, n ≤ reachBytes := fun n hn => hs n (by
            simp only [DataW.weights, Try.underlying34, List.mem_cons, List.mem_append]
            refine .inr (.inl (mem_weightsAll (List.mem_map.2 ⟨i, List.mem_range.2 hi, rfl⟩) ?_))
            have hD : D i = .agg [y0.1, y1.1] := congrArg Prod.fst he
            rw [hD]
            have hw := DataW.weights_mem_each (P := Try.prog) (ts := [3, 31]) (ds := [y0.1, y1.1]) (j := 1) rfl rfl n hn
            simpa [DataW.weights, Try.underlying36] using hw)
          obtain ⟨l, hb⟩ := of_bytes h1 hsz
          have a0 := hat 0 (by omega)
          have a1 := hat 1 (by omega)
          simp at a0 a1
          exact ⟨((k, l), c1), fun _ => ⟨by simpa [Addr.add] using a0, a1, hb⟩⟩
      · exact ⟨((0, []), undef), fun h => absurd h hi⟩
    let g : Nat → Frag × Value := fun i => (key i).choose
    have hg : ∀ i, i < len → w.cell? (x.add (i * 2)) = some (.int .i64 (g i).1.1) ∧ w.cell? ((x.add (i * 2)).add 1) = some (g i).2 ∧ Bytes w (g i).2 (g i).1.2 := fun i => (key i).choose_spec
    clear_value g
    refine ⟨(List.range len).map fun i => (g i).1, some x, m, by simp, by simpa using hlen, fun i hi => ?_⟩
    simp at hi
    obtain ⟨g0, g1, g2⟩ := hg i hi
    have hsp := spot_none' (a := x) (by simpa using (hg 0 (by omega)).1)
    obtain ⟨e1, e2, e3⟩ := at_addr' hsp g0
    have e4 := at_addr' (by unfold Addr.add; split <;> simp [hsp]) g1
    have hfd : fragD ((List.range len).map fun i => (g i).1) i = (g i).1 := by unfold fragD; simp [hi]
    refine ⟨x.block, x.off, (g i).2, by rw [← e1], e2, by rw [hfd]; exact e3, ?_, by rw [hfd]; exact g2⟩
    have hb : (x.add (i * 2)).block = x.block ∧ (x.add (i * 2)).off = x.off + i * 2 := by
      unfold Addr.add
      split
      · rename_i h0; exact ⟨rfl, by rw [h0]; rfl⟩
      · exact ⟨rfl, rfl⟩
    rw [hb.1, hb.2] at e4
    exact e4.2.2
end
end Go.Proofs.Ytojfeldafbabeaa
