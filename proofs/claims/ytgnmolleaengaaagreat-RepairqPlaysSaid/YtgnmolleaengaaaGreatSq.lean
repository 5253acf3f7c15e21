/- Slices in memory that read as rows of cells; opened from the form; kept by growth. -/
import Derived.Test.YtgnmolleaengaaaGreatMs
import Derived.ProofKit
import Derived.Deep.Slices
import Derived.Lib.SmallJoins
import Derived.SizedLaws
set_option linter.unusedVariables false
set_option linter.unusedSimpArgs false
set_option linter.unnecessarySimpa false
namespace Go.Proofs.YtgnmolleaengaaaGreat
open Go Go.ChangeShapes Go.WideShapes Go.ChangeAt Go.RowKit Go.Deep Go.Joins

/-- v is a slice of n elements of k cells each, element i reads as f i -/
def Seq (w : World) (v : Value) (k n : Nat) (f : Nat → List Value) : Prop :=
  ∃ (a : Option Addr) (cap : Nat), v = .slice a n cap ∧ n ≤ cap ∧ n ≤ 9223372036854775807 ∧ ∀ i, i < n → ∃ b off, a = some ⟨b, off, none⟩ ∧ b < w.heap.size ∧ ∀ j u, (f i)[j]? = some u → w.cell? ⟨b, off + i * k + j, none⟩ = some u

theorem Seq.nil (w : World) (k : Nat) (f : Nat → List Value) : Seq w (.slice none 0 0) k 0 f := ⟨none, 0, rfl, by omega, by omega, fun i hi => by omega⟩
theorem Seq.below {w w' : World} {v : Value} {k n : Nat} {f : Nat → List Value} {B : Nat} (h : Seq w v k n f) (hb : Below B w w') (hB : w.heap.size ≤ B) : Seq w' v k n f := by
  obtain ⟨a, cap, hv, hc, hl, hi⟩ := h
  refine ⟨a, cap, hv, hc, hl, fun i hlt => ?_⟩
  obtain ⟨b, off, ha, hbs, h0⟩ := hi i hlt
  exact ⟨b, off, ha, by have := hb.size; omega, fun j u hu => (hb.cell (p := ⟨b, _, none⟩) (by show b < B; omega)).trans (h0 j u hu)⟩

theorem wf_i64 {n : Int} (h : (Lit.int .i64 n).wf = true) : -9223372036854775808 ≤ n ∧ n ≤ 9223372036854775807 := by
  simp [Lit.wf, IntKind.min, IntKind.max, IntKind.signed, IntKind.bits] at h
  exact ⟨by omega, by omega⟩
def In64 (n : Int) : Prop := -9223372036854775808 ≤ n ∧ n ≤ 9223372036854775807

section
variable {H : Type} {enc : TypeId × Value → H} {w : World} {base : Nat} {spare : Nat → Bool} {held : Bool}
theorem one_int {t : TypeId} {fuel : Nat} {v : Value} {y : DataW H × List MemPlace} (ht : Tryz.prog.underlying t = some (.int .i64)) (h : DataW.trod enc Tryz.prog w base spare held fuel t [v] = some y) : ∃ n, v = .int .i64 n ∧ In64 n := by
  obtain ⟨n, e, _, hw⟩ := DataW.trod_int ht h
  simp at e
  exact ⟨n, e, wf_i64 hw⟩
theorem spot_none {a : Addr} {v : Value} (h : w.cell? (a.add 0) = some v) : a.spot = none := by
  have := World.cell?_spot h
  simpa [Addr.add] using this
theorem at_addr {a : Addr} {i : Nat} {v : Value} (hs : a.spot = none) (h : w.cell? (a.add i) = some v) : a = ⟨a.block, a.off, none⟩ ∧ a.block < w.heap.size ∧ w.cell? ⟨a.block, a.off + i, none⟩ = some v := by
  have hl := World.block_lt_of_cell? w _ h
  obtain ⟨b, off, spot⟩ := a
  have hs' : spot = none := hs
  subst hs'
  have e : (⟨b, off, none⟩ : Addr).add i = ⟨b, off + i, none⟩ := by
    unfold Addr.add
    split
    · rename_i h0; subst h0; rfl
    · rfl
  rw [e] at hl h
  exact ⟨rfl, hl, h⟩

/-- a slice of ints from the form -/
theorem open_ints {t et : TypeId} {a : Option Addr} {len cap : Nat} {d : DataW H} {ps : List MemPlace} (ht : Tryz.prog.underlying t = some (.slice et)) (hu : Tryz.prog.underlying et = some (.int .i64)) (hc1 : Tryz.prog.cellsOf et = 1) (h : DataW.Trod enc Tryz.prog w base (fun _ => true) held t (.slice a len cap) d ps) :
    ∃ f : Nat → Int, Seq w (.slice a len cap) 1 len (fun i => [.int .i64 (f i)]) ∧ ∀ i, In64 (f i) := by
  obtain ⟨fuel, hf⟩ := h
  rcases open_slice1 ht hc1 hf with ⟨hcs, _⟩ | ⟨x, l, c, m, n, V, D, Pl, hcs, _, hl, hm, hmm, _, hx⟩
  · simp [Value.cells] at hcs
    obtain ⟨rfl, rfl, rfl⟩ := hcs
    exact ⟨fun _ => 0, ⟨none, 0, rfl, by omega, by omega, fun i hi => by omega⟩, fun _ => by unfold In64; simp⟩
  · simp [Value.cells] at hcs
    obtain ⟨rfl, rfl, rfl⟩ := hcs
    simp only [if_true] at hmm
    subst hmm
    unfold maxLen at hm
    have key : ∀ i, ∃ b : Int, (i < len → V i = .int .i64 b) ∧ In64 b := fun i => by
      by_cases hi : i < len
      · obtain ⟨b, hb, h1⟩ := one_int hu (hx i (by omega)).2
        exact ⟨b, fun _ => hb, h1⟩
      · exact ⟨0, fun h => absurd h hi, by unfold In64; omega⟩
    refine ⟨fun i => (key i).choose, ⟨some x, _, rfl, by omega, by omega, fun i hi => ?_⟩, fun i => (key i).choose_spec.2⟩
    have h1 := (hx i (by omega)).1
    rw [(key i).choose_spec.1 hi] at h1
    obtain ⟨h2, h3, h4⟩ := at_addr (spot_none (hx 0 (by omega)).1) h1
    refine ⟨x.block, x.off, by rw [← h2], h3, fun j u hu => ?_⟩
    match j, hu with
    | 0, hu => simp at hu; subst hu; simpa using h4
    | j + 1, hu => simp at hu

/-- a slice of structs of five ints from the form -/
theorem open_five {t et : TypeId} {a : Option Addr} {len cap : Nat} {d : DataW H} {ps : List MemPlace} (ht : Tryz.prog.underlying t = some (.slice et)) (hc5 : Tryz.prog.cellsOf et = 5)
    (hfive : ∀ {fuel : Nat} {cs : List Value} {y : DataW H × List MemPlace}, cs.length = 5 → DataW.trod enc Tryz.prog w base (fun _ => true) held fuel et cs = some y → ∃ n0 n1 n2 n3 n4 : Int, cs = [.int .i64 n0, .int .i64 n1, .int .i64 n2, .int .i64 n3, .int .i64 n4] ∧ In64 n0 ∧ In64 n1 ∧ In64 n2 ∧ In64 n3 ∧ In64 n4)
    (h : DataW.Trod enc Tryz.prog w base (fun _ => true) held t (.slice a len cap) d ps) :
    ∃ f : Nat → Int × Int × Int × Int × Int, Seq w (.slice a len cap) 5 len (fun i => [.int .i64 (f i).1, .int .i64 (f i).2.1, .int .i64 (f i).2.2.1, .int .i64 (f i).2.2.2.1, .int .i64 (f i).2.2.2.2]) ∧ ∀ i, In64 (f i).1 ∧ In64 (f i).2.1 ∧ In64 (f i).2.2.1 ∧ In64 (f i).2.2.2.1 ∧ In64 (f i).2.2.2.2 := by
  obtain ⟨fuel, hf⟩ := h
  rcases open_slice ht hf with ⟨hcs, _⟩ | ⟨x, l, c, m, n, D, Pl, hcs, _, hl, hm, hmm, _, hx⟩
  · simp [Value.cells] at hcs
    obtain ⟨rfl, rfl, rfl⟩ := hcs
    exact ⟨fun _ => (0, 0, 0, 0, 0), ⟨none, 0, rfl, by omega, by omega, fun i hi => by omega⟩, fun _ => by unfold In64; simp⟩
  · simp [Value.cells] at hcs
    obtain ⟨rfl, rfl, rfl⟩ := hcs
    simp only [if_true] at hmm
    subst hmm
    unfold maxLen at hm
    rw [hc5] at hx
    have key : ∀ i, ∃ e : Int × Int × Int × Int × Int, (i < len → w.cell? (x.add (i * 5)) = some (.int .i64 e.1) ∧ w.cell? ((x.add (i * 5)).add 1) = some (.int .i64 e.2.1) ∧ w.cell? ((x.add (i * 5)).add 2) = some (.int .i64 e.2.2.1) ∧ w.cell? ((x.add (i * 5)).add 3) = some (.int .i64 e.2.2.2.1) ∧ w.cell? ((x.add (i * 5)).add 4) = some (.int .i64 e.2.2.2.2)) ∧ In64 e.1 ∧ In64 e.2.1 ∧ In64 e.2.2.1 ∧ In64 e.2.2.2.1 ∧ In64 e.2.2.2.2 := fun i => by
      by_cases hi : i < len
      · obtain ⟨cs, hc, ht⟩ := hx i (by omega)
        obtain ⟨_, hcl, hat⟩ := World.cells?_some hc
        obtain ⟨n0, n1, n2, n3, n4, rfl, w0, w1, w2, w3, w4⟩ := hfive hcl ht
        have a0 := hat 0 (by omega)
        have a1 := hat 1 (by omega)
        have a2 := hat 2 (by omega)
        have a3 := hat 3 (by omega)
        have a4 := hat 4 (by omega)
        simp at a0 a1 a2 a3 a4
        exact ⟨(n0, n1, n2, n3, n4), fun _ => ⟨by simpa [Addr.add] using a0, a1, a2, a3, a4⟩, w0, w1, w2, w3, w4⟩
      · exact ⟨(0, 0, 0, 0, 0), fun h => absurd h hi, by unfold In64; simp⟩
    refine ⟨fun i => (key i).choose, ⟨some x, m, rfl, by omega, by omega, fun i hi => ?_⟩, fun i => (key i).choose_spec.2⟩
    have g := (key i).choose_spec.1 hi
    have hsp := spot_none (a := x) (by simpa using ((key 0).choose_spec.1 (by omega)).1)
    have hb : (x.add (i * 5)).block = x.block ∧ (x.add (i * 5)).off = x.off + i * 5 := by
      unfold Addr.add
      split
      · rename_i h0; exact ⟨rfl, by rw [h0]; rfl⟩
      · exact ⟨rfl, rfl⟩
    have hsp2 : (x.add (i * 5)).spot = none := by unfold Addr.add; split <;> simp [hsp]
    obtain ⟨g0, g1, g2, g3, g4⟩ := g
    obtain ⟨e1, e2, e3⟩ := at_addr hsp g0
    obtain ⟨-, -, q1⟩ := at_addr hsp2 g1
    obtain ⟨-, -, q2⟩ := at_addr hsp2 g2
    obtain ⟨-, -, q3⟩ := at_addr hsp2 g3
    obtain ⟨-, -, q4⟩ := at_addr hsp2 g4
    rw [hb.1, hb.2] at q1 q2 q3 q4
    refine ⟨x.block, x.off, by rw [← e1], e2, fun j u hu => ?_⟩
    match j, hu with
    | 0, hu => simp at hu; subst hu; simpa using e3
    | 1, hu => simp at hu; subst hu; exact q1
    | 2, hu => simp at hu; subst hu; exact q2
    | 3, hu => simp at hu; subst hu; exact q3
    | 4, hu => simp at hu; subst hu; exact q4
    | j + 5, hu => simp at hu
end
end Go.Proofs.YtgnmolleaengaaaGreat
