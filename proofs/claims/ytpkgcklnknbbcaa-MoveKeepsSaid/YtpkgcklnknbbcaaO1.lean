/- From the form's reading of an argument to the walks' words: a state, an event, a list of truth values, a list of events. -/
import Derived.Test.YtpkgcklnknbbcaaC2
import Derived.ProofKit
import Derived.Deep.Slices
import Derived.Lib.SmallJoins
import Derived.SizedLaws
set_option linter.unusedVariables false
set_option linter.unusedSimpArgs false
set_option linter.unnecessarySimpa false
namespace Go.Proofs.Ytpkgcklnknbbcaa
open Go.ChangeShapes Go.WideShapes Go.ChangeAt Go.RowKit Go.Deep Go.Joins
section
variable {H : Type} {enc : TypeId × Value → H} {w : World} {base : Nat} {spare : Nat → Bool} {held : Bool}

def In64 (n : Int) : Prop := -9223372036854775808 ≤ n ∧ n ≤ 9223372036854775807

theorem one_int {t : TypeId} {fuel : Nat} {v : Value} {y : DataW H × List MemPlace} (ht : Try.prog.underlying t = some (.int .i64)) (h : DataW.trod enc Try.prog w base spare held fuel t [v] = some y) : ∃ n, v = .int .i64 n ∧ In64 n := by
  obtain ⟨n, e, _, hw⟩ := DataW.trod_int ht h
  simp at e
  exact ⟨n, e, wf_i64 hw⟩
theorem one_bool {t : TypeId} {fuel : Nat} {v : Value} {y : DataW H × List MemPlace} (ht : Try.prog.underlying t = some .bool) (h : DataW.trod enc Try.prog w base spare held fuel t [v] = some y) : ∃ b, v = .bool b := by
  obtain ⟨b, e, _⟩ := DataW.trod_bool ht h
  simp at e
  exact ⟨b, e⟩

theorem open_state {r : Reach} {b0 : Nat} {v : Value} {d : DataW H} {ps : List MemPlace} (hv : Value.okWide Try.prog w r b0 23 v) (h : DataW.Trod enc Try.prog w base spare held 23 v d ps) :
    ∃ p s x e, v = .agg #[.int .i64 p, .int .i64 s, .int .i64 x, .bool e] ∧ In64 p ∧ In64 s ∧ In64 x := by
  obtain ⟨v0, v1, v2, v3, y0, y1, y2, y3, n, rfl, _, _, h0, h1, h2, h3⟩ := open_agg4 Try.underlying23 (by kernel_rfl) (by kernel_rfl) hv h
  obtain ⟨p, rfl, w0⟩ := one_int Try.underlying3 h0
  obtain ⟨s, rfl, w1⟩ := one_int Try.underlying3 h1
  obtain ⟨x, rfl, w2⟩ := one_int Try.underlying3 h2
  obtain ⟨e, rfl⟩ := one_bool Try.underlying4 h3
  exact ⟨p, s, x, e, rfl, w0, w1, w2⟩

theorem open_event {r : Reach} {b0 : Nat} {v : Value} {d : DataW H} {ps : List MemPlace} (hv : Value.okWide Try.prog w r b0 32 v) (h : DataW.Trod enc Try.prog w base spare held 32 v d ps) :
    ∃ k t, v = .agg #[.int .i64 k, .int .i64 t] ∧ In64 k ∧ In64 t := by
  obtain ⟨v0, v1, y0, y1, n, rfl, _, _, h0, h1⟩ := open_agg2 Try.underlying32 (by kernel_rfl) (by kernel_rfl) hv h
  obtain ⟨k, rfl, w0⟩ := one_int Try.underlying3 h0
  obtain ⟨t, rfl, w1⟩ := one_int Try.underlying3 h1
  exact ⟨k, t, rfl, w0, w1⟩

theorem spot_none {a : Addr} {v : Value} (h : w.cell? (a.add 0) = some v) : a.spot = none := by
  have := World.cell?_spot h
  simpa [Addr.add] using this
theorem at_addr {a : Addr} {i : Nat} {v : Value} (hs : a.spot = none) (h : w.cell? (a.add i) = some v) : a = ⟨a.block, a.off, none⟩ ∧ a.block < w.heap.size ∧ w.cell? ⟨a.block, a.off + i, none⟩ = some v := by
  have hl := World.block_lt_of_cell? w _ h
  obtain ⟨b, off, spot⟩ := a
  have hs' : spot = none := hs
  subst hs'
  have e : (⟨b, off, none⟩ : Addr).add i = ⟨b, off + i, none⟩ := by
    unfold Addr.add
    split
    · rename_i h0; subst h0; rfl
    · rfl
  rw [e] at hl h
  exact ⟨rfl, hl, h⟩

theorem open_bools {a : Option Addr} {len cap : Nat} {d : DataW H} {ps : List MemPlace} (h : DataW.Trod enc Try.prog w base (fun _ => true) held 47 (.slice a len cap) d ps) :
    ∃ f, Bools w (.slice a len cap) len f := by
  obtain ⟨fuel, hf⟩ := h
  rcases open_slice1 Try.underlying47 (by kernel_rfl) hf with ⟨hcs, _⟩ | ⟨x, l, c, m, n, V, D, Pl, hcs, _, hl, hm, hmm, _, hx⟩
  · simp [Value.cells] at hcs
    obtain ⟨rfl, rfl, rfl⟩ := hcs
    exact ⟨fun _ => false, none, 0, rfl, by omega, fun i hi => by omega⟩
  · simp [Value.cells] at hcs
    obtain ⟨rfl, rfl, rfl⟩ := hcs
    simp only [if_true] at hmm
    subst hmm
    unfold maxLen at hm
    have key : ∀ i, ∃ b, i < len → V i = .bool b := fun i => by
      by_cases hi : i < len
      · obtain ⟨b, hb⟩ := one_bool Try.underlying4 (hx i (by omega)).2
        exact ⟨b, fun _ => hb⟩
      · exact ⟨false, fun h => absurd h hi⟩
    refine ⟨fun i => (key i).choose, some x, _, rfl, by omega, fun i hi => ?_⟩
    have h1 := (hx i (by omega)).1
    rw [(key i).choose_spec hi] at h1
    obtain ⟨h2, h3, h4⟩ := at_addr (spot_none (hx 0 (by omega)).1) h1
    exact ⟨x.block, x.off, by rw [← h2], h3, h4⟩

theorem open_evs {a : Option Addr} {len cap : Nat} {d : DataW H} {ps : List MemPlace} (h : DataW.Trod enc Try.prog w base (fun _ => true) held 40 (.slice a len cap) d ps) :
    ∃ es : List Ev, es.length = len ∧ Evs w (.slice a len cap) es ∧ ∀ e ∈ es, In64 e.1 ∧ In64 e.2 := by
  obtain ⟨fuel, hf⟩ := h
  rcases open_slice Try.underlying40 hf with ⟨hcs, _⟩ | ⟨x, l, c, m, n, D, Pl, hcs, _, hl, hm, hmm, _, hx⟩
  · simp [Value.cells] at hcs
    obtain ⟨rfl, rfl, rfl⟩ := hcs
    exact ⟨[], rfl, ⟨none, 0, rfl, by simp, fun i hi => by simp at hi⟩, by simp⟩
  · simp [Value.cells] at hcs
    obtain ⟨rfl, rfl, rfl⟩ := hcs
    simp only [if_true] at hmm
    subst hmm
    unfold maxLen at hm
    have ce : Try.prog.cellsOf 32 = 2 := by kernel_rfl
    have ci : Try.prog.cellsOf 3 = 1 := by kernel_rfl
    rw [ce] at hx
    have key : ∀ i, ∃ e : Ev, i < len → w.cell? (x.add (i * 2)) = some (.int .i64 e.1) ∧ w.cell? ((x.add (i * 2)).add 1) = some (.int .i64 e.2) ∧ In64 e.1 ∧ In64 e.2 := fun i => by
      by_cases hi : i < len
      · obtain ⟨cs, hc, ht⟩ := hx i (by omega)
        obtain ⟨_, hcl, hat⟩ := World.cells?_some hc
        obtain ⟨y0, y1, n', _, _, h0, h1⟩ := trod_struct2 Try.underlying32 ht
        match cs, hcl with
        | [c0, c1], _ =>
          simp [ci] at h0 h1
          obtain ⟨k, rfl, wk⟩ := one_int Try.underlying3 h0
          obtain ⟨t, rfl, wt⟩ := one_int Try.underlying3 h1
          have a0 := hat 0 (by omega)
          have a1 := hat 1 (by omega)
          simp at a0 a1
          exact ⟨(k, t), fun _ => ⟨by simpa [Addr.add] using a0, a1, wk, wt⟩⟩
      · exact ⟨(0, 0), fun h => absurd h hi⟩
    let g : Nat → Ev := fun i => (key i).choose
    have hg : ∀ i, i < len → w.cell? (x.add (i * 2)) = some (.int .i64 (g i).1) ∧ w.cell? ((x.add (i * 2)).add 1) = some (.int .i64 (g i).2) ∧ In64 (g i).1 ∧ In64 (g i).2 := fun i => (key i).choose_spec
    clear_value g
    refine ⟨(List.range len).map g, by simp, ⟨some x, m, by simp, by simp; omega, fun i hi => ?_⟩, fun e he => ?_⟩
    · simp at hi
      obtain ⟨g0, g1, _, _⟩ := hg i hi
      have hsp := spot_none (a := x) (by simpa using (hg 0 (by omega)).1)
      obtain ⟨e1, e2, e3⟩ := at_addr hsp g0
      have e4 := at_addr (by unfold Addr.add; split <;> simp [hsp]) g1
      refine ⟨x.block, x.off, by rw [← e1], e2, ?_, ?_⟩
      · simpa [hi] using e3
      · have hb : (x.add (i * 2)).block = x.block ∧ (x.add (i * 2)).off = x.off + i * 2 := by
          unfold Addr.add
          split
          · rename_i h0; exact ⟨rfl, by rw [h0]; rfl⟩
          · exact ⟨rfl, rfl⟩
        rw [hb.1, hb.2] at e4
        simpa [hi] using e4.2.2
    · obtain ⟨i, hi, rfl⟩ := List.mem_map.1 he
      exact (hg i (List.mem_range.1 hi)).2.2
end
end Go.Proofs.Ytpkgcklnknbbcaa
