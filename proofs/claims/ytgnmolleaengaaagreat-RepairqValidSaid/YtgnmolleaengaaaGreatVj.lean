/- A job (numbers and a risk of any limbs) from the form. -/
import Derived.Test.YtgnmolleaengaaaGreatVa
import Derived.Test.YtgnmolleaengaaaGreatOp
set_option linter.unusedVariables false
set_option linter.unusedSimpArgs false
set_option linter.unnecessarySimpa false
namespace Go.Proofs.YtgnmolleaengaaaGreat
namespace V
open Go Go.ChangeShapes Go.WideShapes Go.ChangeAt Go.RowKit Go.Deep Go.Joins

section
variable {H : Type} {enc : TypeId × Value → H} {w : World} {base : Nat} {spare : Nat → Bool} {held : Bool}
theorem one_u32 {t : TypeId} {fuel : Nat} {v : Value} {y : DataW H × List MemPlace} (ht : Tryz.prog.underlying t = some (.int .u32)) (h : DataW.trod enc Tryz.prog w base spare held fuel t [v] = some y) : ∃ n : Nat, v = .int .u32 (n : Int) ∧ n < 4294967296 := by
  obtain ⟨n, e, _, hw⟩ := DataW.trod_int ht h
  simp at e
  simp [Lit.wf, IntKind.min, IntKind.max, IntKind.signed, IntKind.bits] at hw
  refine ⟨n.toNat, ?_, by omega⟩
  rw [e, Int.toNat_of_nonneg (by omega)]
theorem open_limbs {fuel : Nat} {v : Value} {y : DataW H × List MemPlace} (hf : DataW.trod enc Tryz.prog w base (fun _ => true) held fuel 25 [v] = some y) :
    ∃ (a : Option Addr) (c : Nat) (l : List Nat), v = .slice a l.length c ∧ Rd eU w (.slice a l.length c) l ∧ Lims l := by
  have ht : Tryz.prog.underlying 25 = some (.slice 94) := by kernel_rfl
  have hu : Tryz.prog.underlying 94 = some (.int .u32) := by kernel_rfl
  have hc1 : Tryz.prog.cellsOf 94 = 1 := by kernel_rfl
  rcases open_slice1 ht hc1 hf with ⟨hcs, _⟩ | ⟨x, len, c, m, n, W, D, Pl, hcs, _, hl, hm, hmm, _, hx⟩
  · simp at hcs
    subst hcs
    exact ⟨none, 0, [], rfl, Rd.nil w none 0 (by omega), fun x hx => by cases hx⟩
  · simp at hcs
    subst hcs
    simp only [if_true] at hmm
    subst hmm
    unfold maxLen at hm
    have key : ∀ i, ∃ b : Nat, (i < len → W i = .int .u32 (b : Int)) ∧ b < 4294967296 := fun i => by
      by_cases hi : i < len
      · obtain ⟨b, hb, h1⟩ := one_u32 hu (hx i (by omega)).2
        exact ⟨b, fun _ => hb, h1⟩
      · exact ⟨0, fun h => absurd h hi, by omega⟩
    let g : Nat → Nat := fun i => (key i).choose
    have hg : ∀ i, (i < len → W i = .int .u32 (g i : Int)) ∧ g i < 4294967296 := fun i => (key i).choose_spec
    clear_value g
    have hlen : ((List.range len).map g).length = len := by simp
    refine ⟨some x, m, (List.range len).map g, by rw [hlen], ⟨some x, m, rfl, by rw [hlen]; omega, ?_⟩, fun y hy => ?_⟩
    · by_cases h0 : len = 0
      · left; rw [h0]; rfl
      · right
        have hsp := spot_none (hx 0 (by omega)).1
        obtain ⟨h2, h3, -⟩ := at_addr hsp (hx 0 (by omega)).1
        refine ⟨x.block, x.off, by rw [← h2], h3, fun j u hu => ?_⟩
        have hj : j < len := by
          have := (List.getElem?_eq_some_iff.1 hu).1
          rw [flat_len, hlen] at this
          exact (Nat.mul_one len) ▸ this
        have e := flat_get (E := eU) ((List.range len).map g) j (g j) 0 (by simp [hj]) (by decide)
        rw [show j * eU.k + 0 = j by show j * 1 + 0 = j; omega] at e
        rw [e] at hu
        have e2 : u = .int .u32 (g j : Int) := by
          have : some (Value.int .u32 (g j : Int)) = some u := hu
          exact (Option.some.inj this).symm
        subst e2
        have h1 := (hx j (by omega)).1
        rw [(hg j).1 hj] at h1
        exact (at_addr hsp h1).2.2
    · obtain ⟨i, _, rfl⟩ := List.mem_map.1 hy
      exact (hg i).2
end

theorem of_five {α : Type} {l : List α} (h : l.length = 5) : ∃ a b c d e, l = [a, b, c, d, e] := by
  match l, h with
  | [a, b, c, d, e], _ => exact ⟨a, b, c, d, e, rfl⟩
theorem of_three {α : Type} {l : List α} (h : l.length = 3) : ∃ a b c, l = [a, b, c] := by
  match l, h with
  | [a, b, c], _ => exact ⟨a, b, c, rfl⟩
/-- a job that reads -/
structure Good (w : World) (j : Jb) (an : Option Addr) (anc : Nat) (ad : Option Addr) (adc : Nat) : Prop where
  vol : In64' j.vol
  frag : In64' j.frag
  cls : In64' j.cls
  rem : In64' j.rem
  num : Rd eU w (.slice an j.n.length anc) j.n
  den : Rd eU w (.slice ad j.d.length adc) j.d
  ln : Lims j.n
  ld : Lims j.d
theorem open_job {H : Type} {enc : TypeId × Value → H} {w : World} {base : Nat} {held : Bool} {v : Value} {d : DataW H} {ps : List MemPlace} (hv : ∃ cs, v = .agg cs ∧ cs.size = Tryz.prog.cellsOf 29) (h : DataW.Trod enc Tryz.prog w base (fun _ => true) held 29 v d ps) :
    ∃ j an anc ad adc, v = jv j (.slice an j.n.length anc) (.slice ad j.d.length adc) ∧ Good w j an anc ad adc := by
  obtain ⟨fuel, hf0⟩ := h
  obtain ⟨⟨cs⟩, rfl, hsz⟩ := hv
  have c29 : Tryz.prog.cellsOf 29 = 7 := by kernel_rfl
  rw [c29] at hsz
  simp at hsz
  simp only [Value.cells] at hf0
  obtain ⟨a0, a1, a2, a3, a4, a5, a6, rfl⟩ := of_seven hsz
  obtain ⟨xs, n, _, _, _, hlen, hf⟩ := DataW.trod_struct Tryz.underlying29 hf0
  have c3 : Tryz.prog.cellsOf 3 = 1 := by kernel_rfl
  have c27 : Tryz.prog.cellsOf 27 = 3 := by kernel_rfl
  have c4 : Tryz.prog.cellsOf 4 = 1 := by kernel_rfl
  have c25 : Tryz.prog.cellsOf 25 = 1 := by kernel_rfl
  obtain ⟨y0, y1, y2, y3, y4, rfl⟩ := of_five (hlen.trans rfl)
  have h0 := hf 0 _ rfl
  have h1 := hf 1 _ rfl
  have h2 := hf 2 _ rfl
  have h3 := hf 3 _ rfl
  have h4 := hf 4 _ rfl
  simp [c3, c27] at h0 h1 h2 h3 h4
  obtain ⟨n0, rfl, w0⟩ := one_int Tryz.underlying3 h0
  obtain ⟨n1, rfl, w1⟩ := one_int Tryz.underlying3 h1
  obtain ⟨n2, rfl, w2⟩ := one_int Tryz.underlying3 h2
  obtain ⟨n4, rfl, w4⟩ := one_int Tryz.underlying3 h4
  obtain ⟨zs, n', _, rfl, _, hlen', hf'⟩ := DataW.trod_struct Tryz.underlying27 h3
  obtain ⟨z0, z1, z2, rfl⟩ := of_three (hlen'.trans rfl)
  have g0 := hf' 0 _ rfl
  have g1 := hf' 1 _ rfl
  have g2 := hf' 2 _ rfl
  simp [c4, c25] at g0 g1 g2
  obtain ⟨ng, e, -⟩ := DataW.trod_bool Tryz.underlying4 g0
  simp at e
  subst e
  obtain ⟨an, anc, N, rfl, r1, l1⟩ := open_limbs g1
  obtain ⟨ad, adc, D, rfl, r2, l2⟩ := open_limbs g2
  exact ⟨⟨n0, n1, n2, n4, ng, N, D⟩, an, anc, ad, adc, rfl, w0, w1, w2, w4, r1, r2, l1, l2⟩
end V
end Go.Proofs.YtgnmolleaengaaaGreat
