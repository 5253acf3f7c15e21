/- Arguments from the form. -/
import Derived.Test.YthljjllcdocfiaaE3
import Derived.Test.YthljjllcdocfiaaSr
import Derived.WideShapes
set_option linter.unusedVariables false
set_option linter.unusedSimpArgs false
set_option linter.unnecessarySimpa false
namespace Go.Proofs.Ythljjllcdocfiaa
open Go Go.ChangeShapes Go.WideShapes Go.ChangeAt Go.RowKit Go.Deep Go.Joins

/-- a slice whose elements are told, as a list -/
theorem rd_of_seq {α : Type} {E : Enc α} {w : World} {a : Option Addr} {len cap : Nat} {f : Nat → List Value} (hs : Seq w (.slice a len cap) E.k len f) (hcap : cap ≤ 9223372036854775807) {Q : α → Prop} (hf : ∀ i, i < len → ∃ x, f i = E.f x ∧ Q x) :
    ∃ l : List α, l.length = len ∧ Rd E w (.slice a len cap) l ∧ ∀ x ∈ l, Q x := by
  obtain ⟨l, hl, hg⟩ : ∃ l : List α, l.length = len ∧ ∀ i, i < len → ∃ x, l[i]? = some x ∧ f i = E.f x ∧ Q x := by
    have key : ∀ n, n ≤ len → ∃ l : List α, l.length = n ∧ ∀ i, i < n → ∃ x, l[i]? = some x ∧ f i = E.f x ∧ Q x := by
      intro n
      induction n with
      | zero => intro _; exact ⟨[], rfl, fun i hi => by omega⟩
      | succ n ih =>
        intro hn
        obtain ⟨l, h1, h2⟩ := ih (by omega)
        obtain ⟨x, hx, hq⟩ := hf n (by omega)
        refine ⟨l ++ [x], by simp [h1], fun i hi => ?_⟩
        by_cases e : i = n
        · subst e
          exact ⟨x, by rw [← h1]; simp, hx, hq⟩
        · obtain ⟨y, hy, hz⟩ := h2 i (by omega)
          exact ⟨y, by rw [List.getElem?_append_left (by omega)]; exact hy, hz⟩
    exact key len (Nat.le_refl _)
  refine ⟨l, hl, ?_, fun x hx => ?_⟩
  · obtain ⟨a', cap', e, hc, hm, hi⟩ := hs
    cases e
    subst hl
    refine ⟨a, cap, rfl, ⟨hc, hcap⟩, ?_⟩
    by_cases h0 : l = []
    · exact .inl h0
    · right
      have hpos : 0 < l.length := List.length_pos_iff.2 h0
      obtain ⟨b, off, rfl, hb, _⟩ := hi 0 hpos
      refine ⟨b, off, rfl, hb, fun j u hu => ?_⟩
      have hj := (List.getElem?_eq_some_iff.1 hu).1
      rw [flat_len] at hj
      have hk := E.pos
      have hd : j / E.k < l.length := (Nat.div_lt_iff_lt_mul hk).2 hj
      obtain ⟨x, hx, hfx, _⟩ := hg (j / E.k) hd
      obtain ⟨b', off', e, _, hcell⟩ := hi (j / E.k) hd
      cases e
      have hje : j / E.k * E.k + j % E.k = j := Nat.div_add_mod' j E.k
      have h1 := flat_get (E := E) l (j / E.k) x (j % E.k) hx (Nat.mod_lt _ hk)
      rw [hje, hu] at h1
      have h2 := hcell (j % E.k) u (by rw [hfx]; exact h1.symm)
      rw [show off + j / E.k * E.k + j % E.k = off + j by omega] at h2
      exact h2
  · obtain ⟨i, hi, he⟩ := List.getElem_of_mem hx
    obtain ⟨y, hy, _, hq⟩ := hg i (by omega)
    have : y = x := by rw [List.getElem?_eq_getElem hi] at hy; cases hy; exact he
    rw [← this]
    exact hq
section
variable {H : Type} {enc : TypeId × Value → H} {w : World} {base : Nat} {held : Bool}
theorem of_three {α : Type} {l : List α} (h : l.length = 3) : ∃ a b c, l = [a, b, c] := by
  match l, h with
  | [a, b, c], _ => exact ⟨a, b, c, rfl⟩
theorem three44 {fuel : Nat} {cs : List Value} {y : DataW H × List MemPlace} (hl : cs.length = 3) (h : DataW.trod enc Try.prog w base (fun _ => true) held fuel 44 cs = some y) :
    ∃ x : Cp, cs = eC.f x ∧ InC x := by
  obtain ⟨xs, n, _, rfl, _, hlen, hf⟩ := DataW.trod_struct Try.underlying44 h
  have c3 : Try.prog.cellsOf 3 = 1 := by kernel_rfl
  obtain ⟨a0, a1, a2, rfl⟩ := of_three hl
  obtain ⟨y0, y1, y2, rfl⟩ := of_three (hlen.trans rfl)
  have h0 := hf 0 _ rfl
  have h1 := hf 1 _ rfl
  have h2 := hf 2 _ rfl
  simp [c3] at h0 h1 h2
  obtain ⟨n0, rfl, w0⟩ := one_int Try.underlying3 h0
  obtain ⟨n1, rfl, w1⟩ := one_int Try.underlying3 h1
  obtain ⟨n2, rfl, w2⟩ := one_int Try.underlying3 h2
  exact ⟨(n0, n1, n2), rfl, w0, w1, w2⟩
theorem open_cps {a : Option Addr} {len cap : Nat} {d : DataW H} {ps : List MemPlace} (h : DataW.Trod enc Try.prog w base (fun _ => true) held 22 (.slice a len cap) d ps) : ∃ l : List Cp, l.length = len ∧ Rd eC w (.slice a len cap) l ∧ ∀ c ∈ l, InC c := by
  obtain ⟨fuel, hf⟩ := h
  obtain ⟨a', len', cap', f, e, hc, hs, hg⟩ := open_rows1 (v := .slice a len cap) (Good := fun cs => ∃ x : Cp, cs = eC.f x ∧ InC x) Try.underlying22 (k := 3) (by kernel_rfl) (by omega) (fun hl h => three44 hl h) (by simpa [Value.cells] using hf)
  cases e
  exact rd_of_seq (E := eC) hs hc (fun i hi => (hg i hi).1)
theorem one3 {fuel : Nat} {cs : List Value} {y : DataW H × List MemPlace} (hl : cs.length = 1) (h : DataW.trod enc Try.prog w base (fun _ => true) held fuel 3 cs = some y) : ∃ x : Int, cs = eI.f x ∧ In64 x := by
  obtain ⟨c, rfl⟩ : ∃ c, cs = [c] := by
    match cs, hl with
    | [c], _ => exact ⟨c, rfl⟩
  obtain ⟨n, rfl, hn⟩ := one_int Try.underlying3 h
  exact ⟨n, rfl, hn⟩
theorem open_is {a : Option Addr} {len cap : Nat} {d : DataW H} {ps : List MemPlace} (h : DataW.Trod enc Try.prog w base (fun _ => true) held 31 (.slice a len cap) d ps) : ∃ l : List Int, l.length = len ∧ Rd eI w (.slice a len cap) l ∧ ∀ c ∈ l, In64 c := by
  obtain ⟨fuel, hf⟩ := h
  obtain ⟨a', len', cap', f, e, hc, hs, hg⟩ := open_rows1 (v := .slice a len cap) (Good := fun cs => ∃ x : Int, cs = eI.f x ∧ In64 x) Try.underlying31 (k := 1) (by kernel_rfl) (by omega) (fun hl h => one3 hl h) (by simpa [Value.cells] using hf)
  cases e
  exact rd_of_seq (E := eI) hs hc (fun i hi => (hg i hi).1)
end
end Go.Proofs.Ythljjllcdocfiaa
