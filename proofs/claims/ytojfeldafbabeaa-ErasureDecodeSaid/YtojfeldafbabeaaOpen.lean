/- From the form's reading of an argument to the words of Mem: a slice of bytes, a slice of such slices. -/
import Derived.Test.YtojfeldafbabeaaMem
import Derived.ProofKit
import Derived.Deep.Matrix
import Derived.SizedLaws
set_option linter.unusedVariables false
set_option linter.unusedSimpArgs false
set_option linter.unnecessarySimpa false
namespace Go.Mem
open Go.ChangeShapes Go.WideShapes Go.ChangeAt Go.RowKit Go.Deep
section
variable {H : Type} {enc : TypeId × Value → H} {P : Program} {w : World} {base : Nat} {held : Bool}

theorem nats_of_wf : ∀ zs : List Int, (∀ n ∈ zs, (Lit.int .u8 n).wf = true) → ∃ l : List Nat, zs = l.map (fun n : Nat => (n : Int)) ∧ ∀ x ∈ l, x < 256
  | [], _ => ⟨[], rfl, by simp⟩
  | z :: zs, h => by
    obtain ⟨l, rfl, hl⟩ := nats_of_wf zs fun n hn => h n (List.mem_cons_of_mem _ hn)
    have hz := h z (List.mem_cons_self ..)
    simp [Lit.wf, IntKind.min, IntKind.max, IntKind.signed, IntKind.bits] at hz
    refine ⟨z.toNat :: l, by simp; omega, fun x hx => ?_⟩
    rcases List.mem_cons.1 hx with rfl | hx
    · omega
    · exact hl x hx

/-- cells at an address that came in -/
theorem elems_of {a : Addr} {n cap : Nat} {xs : List Value} (hl : xs.length = n) (h1 : n ≤ cap) (h2 : cap ≤ maxLen) (h3 : n ≤ 140737488351232) (hc : ∀ i, i < n → w.cell? (a.add i) = xs[i]?) :
    Elems w (.slice (some a) n cap) xs := by
  subst hl
  refine ⟨some a, cap, rfl, h1, h2, h3, ?_⟩
  by_cases h0 : xs.length = 0
  · exact .inl (List.eq_nil_of_length_eq_zero h0)
  · have e0 : ∃ v, xs[0]? = some v := ⟨xs[0]'(by omega), by simp [show 0 < xs.length by omega]⟩
    obtain ⟨v, hv⟩ := e0
    have c0 := (hc 0 (by omega)).trans hv
    obtain ⟨b, off, spot⟩ := a
    have hspot : spot = none := by simpa [Addr.add] using World.cell?_spot c0
    subst hspot
    refine .inr ⟨b, off, rfl, ?_, fun i hi => ?_⟩
    · have := World.block_lt_of_cell? w _ c0
      simpa [Addr.add] using this
    · rw [← hc i hi]
      congr 1
      unfold Addr.add
      split
      · subst_vars; rfl
      · rfl

theorem bytes_of_ints {a : Addr} {len cap : Nat} {zs : List Int} (hl : len ≤ cap) (hm : cap ≤ maxLen) (hz : zs.length = cap) (h3 : len ≤ 140737488351232)
    (hcell : ∀ i, i < zs.length → w.cell? (a.add i) = some (.int .u8 (zs.getD i 0))) (hwz : ∀ n ∈ zs, (Lit.int .u8 n).wf = true) : ∃ l : List Nat, l.length = len ∧ Bytes w (.slice (some a) len cap) l := by
  obtain ⟨l, rfl, hb⟩ := nats_of_wf zs hwz
  simp only [List.length_map] at hz hcell
  refine ⟨l.take len, by simp; omega, elems_of (by simp [u8s]; omega) hl hm h3 (fun i hi => ?_), fun x hx => hb x (List.mem_of_mem_take hx)⟩
  rw [hcell i (by omega)]
  have hil : i < l.length := by omega
  simp [u8s, hi, hil]

theorem bytes_of_trod {t e : TypeId} (ht : P.underlying t = some (.slice e)) (he : P.underlying e = some (.int .u8)) (ce : P.cellsOf e = 1) (be : P.bytesOf e = 1)
    {a : Option Addr} {len cap : Nat} {d : DataW H} {ps : List MemPlace} (h : DataW.Trod enc P w base (fun _ => true) held t (.slice a len cap) d ps) (hs : ∀ n ∈ d.weights P t, n ≤ reachBytes) : ∃ l, Bytes w (.slice a len cap) l := by
  obtain ⟨fuel, hf⟩ := h
  rcases open_ints ht he ce hf with ⟨hcs, _⟩ | ⟨x, l, c, zs, hcs, _, hl, hm, hz, hx, hcell, hwz⟩
  · simp [Value.cells] at hcs
    obtain ⟨rfl, rfl, rfl⟩ := hcs
    exact ⟨[], Bytes.nil w⟩
  · simp [Value.cells] at hcs
    obtain ⟨rfl, rfl, rfl⟩ := hcs
    simp only [if_true] at hz
    simp only [Prod.mk.injEq] at hx
    obtain ⟨rfl, _⟩ := hx
    have := hs (((lits (H := H) .u8 (zs.take len)).length + (lits (H := H) .u8 (zs.drop len)).length) * P.bytesOf e) (by simp [DataW.weights, ht])
    rw [be] at this
    simp [lits, reachBytes] at this
    obtain ⟨l, _, hb⟩ := bytes_of_ints hl hm hz (by omega) hcell hwz
    exact ⟨l, hb⟩

theorem mem_weightsAll {e : TypeId} : ∀ {ds : List (DataW H)} {d : DataW H} {n : Nat}, d ∈ ds → n ∈ d.weights P e → n ∈ DataW.weightsAll P e ds
  | [], _, _, h, _ => by cases h
  | d0 :: ds, d, n, h, hn => by
    simp only [DataW.weightsAll, List.mem_append]
    rcases List.mem_cons.1 h with rfl | h
    · exact .inl hn
    · exact .inr (mem_weightsAll h hn)

theorem mat_of_trod {t e q : TypeId} (ht : P.underlying t = some (.slice e)) (he : P.underlying e = some (.slice q)) (hq : P.underlying q = some (.int .u8)) (ce : P.cellsOf e = 1) (cq : P.cellsOf q = 1) (be : P.bytesOf e = 24) (bq : P.bytesOf q = 1)
    {a : Option Addr} {len cap : Nat} {d : DataW H} {ps : List MemPlace} (h : DataW.Trod enc P w base (fun _ => true) held t (.slice a len cap) d ps) (hs : ∀ n ∈ d.weights P t, n ≤ reachBytes) : ∃ l, Mat w (.slice a len cap) l := by
  obtain ⟨fuel, hf⟩ := h
  rcases open_int_rows ht he hq ce cq hf with ⟨hcs, _⟩ | ⟨x, l, c, A, L, C, Z, hcs, _, hl, hm, hx, hcell⟩
  · simp [Value.cells] at hcs
    obtain ⟨rfl, rfl, rfl⟩ := hcs
    exact ⟨[], Mat.nil w⟩
  · simp [Value.cells] at hcs
    obtain ⟨rfl, rfl, rfl⟩ := hcs
    simp only [Prod.mk.injEq] at hx
    obtain ⟨rfl, _⟩ := hx
    have h0 := hs ((((List.range len).map fun r => intRow (H := H) .u8 (A r) (L r) (Z r)).length + ((List.range (cap - len)).map fun j => intRow (H := H) .u8 (A (len + j)) (L (len + j)) (Z (len + j))).length) * P.bytesOf e) (by simp [DataW.weights, ht])
    rw [be] at h0
    simp [reachBytes] at h0
    have each : ∀ r, r < len → ∃ l : List Nat, Bytes w (.slice (A r) (L r) (C r)) l := by
      intro r hr
      obtain ⟨g1, g2, g3, g4, g5, g6, g7⟩ := hcell r (by omega)
      cases hA : A r with
      | none =>
        have := g6 hA
        have hL : L r = 0 := by omega
        rw [hL, this]
        exact ⟨[], Bytes.nil w⟩
      | some a' =>
        have hw := hs (((lits (H := H) .u8 ((Z r).take (L r))).length + (lits (H := H) .u8 ((Z r).drop (L r))).length) * P.bytesOf q) (by
          simp only [DataW.weights, ht, List.mem_cons, List.mem_append]
          refine .inr (.inl (mem_weightsAll (List.mem_map.2 ⟨r, List.mem_range.2 hr, rfl⟩) ?_))
          simp [intRow, hA, DataW.weights, he])
        rw [bq] at hw
        simp [lits, reachBytes] at hw
        obtain ⟨l, _, hb⟩ := bytes_of_ints (w := w) (a := a') (len := L r) (cap := C r) (zs := Z r) g2 g3 g4 (by omega) (fun i hi => by rw [(g7 a' hA).2 i (by omega)]) g5
        exact ⟨l, hb⟩
    obtain ⟨f, hf⟩ := choose_lt each
    refine ⟨(List.range len).map f, (List.range len).map fun r => .slice (A r) (L r) (C r), elems_of (by simp) hl hm (by omega) (fun i hi => ?_), by simp, fun i x r h1 h2 => ?_⟩
    · rw [(hcell i (by omega)).1]
      simp [hi]
    · simp only [List.getElem?_map, Option.map_eq_some_iff] at h1 h2
      obtain ⟨j, hj, rfl⟩ := h1
      obtain ⟨j', hj', rfl⟩ := h2
      rw [hj] at hj'
      cases hj'
      have hil : i < len := by
        rcases Nat.lt_or_ge i len with h | h
        · exact h
        · rw [List.getElem?_eq_none (by simpa using h)] at hj; cases hj
      rw [List.getElem?_range hil] at hj
      cases hj
      exact hf _ hil
end
end Go.Mem
