/- sort.SliceStable at the queue. -/
import Derived.Test.YtgnmolleaengaaaRk
set_option linter.unusedVariables false
set_option linter.unusedSimpArgs false
set_option linter.unnecessarySimpa false
namespace Go.Proofs.Ytgnmolleaengaaa
open Go Go.Shelf Go.RowKit Go.Lib
open Go.Sort (HoldsK putRowK SWO flatK)

theorem sl_one : Try.prog.funcs.findIdx? (·.name == "internal/reflectlite" ++ ".Swapper$" ++ toString 1) = some 50 := swapper_none
theorem entry_tiny (p : Option Addr) (n c : Nat) (h1 : n ≤ 1) (lf : Fn) (la lb : Array Value) (w : World) : Calls Try.prog 23 #[.iface 53 (.slice p n c), .func lf la lb] w fun e w' => e = .returned (.tuple #[]) ∧ Below w.heap.size w w' := by
  have key : ∃ f, Try.prog.funcs.findIdx? (·.name == "internal/reflectlite" ++ ".Swapper$" ++ toString (swapperK n siE 25)) = some f := by
    rcases (by omega : n = 0 ∨ n = 1) with rfl | rfl
    · exact ⟨_, by rw [show swapperK 0 siE 25 = 1 by simp [swapperK]]; exact swapper_none⟩
    · exact ⟨_, by rw [show swapperK 1 siE 25 = 2 by simp [swapperK]]; exact swapper_one⟩
  obtain ⟨f, hf⟩ := key
  refine (Any.sort_SliceStable_tiny stable8 53 60 siT siE (by kernel_rfl) (by kernel_rfl) (by kernel_rfl) (by kernel_rfl) 25 (fun _ => by kernel_rfl) p n c h1 f hf lf la lb w).mono ?_
  rintro e w' ⟨rfl, os, rfl⟩
  exact ⟨rfl, rfl, rfl, rfl, by simp [Sort.grow], fun k hk => by simp [Sort.grow, Array.getElem?_append, hk]⟩

def SortedPost (B qb : Nat) (slots : Int) (L : List En) (w : World) (e : Ending) (w' : World) : Prop := e = .returned (.tuple #[]) ∧ ∃ L', L'.Perm L ∧ L'.Pairwise (fun x y => ltE y x = false) ∧ Qp B qb slots L' w' ∧ Qt B w w'

set_option maxHeartbeats 1000000 in
theorem stable_as {B qb : Nat} {slots : Int} {L : List En} {w : World} (h : Qp B qb slots L w) (hl : L.length ≤ 19) {v : Value} (c1 : w.cell? ⟨qb, 1, none⟩ = some v) :
    Calls Try.prog 23 #[.iface 53 v, .func (.func 24) #[.pointer (some ⟨qb, 0, none⟩)] #[]] w (SortedPost B qb slots L w) := by
  by_cases h2 : 2 ≤ L.length
  · obtain ⟨n, hn⟩ : ∃ n, L.length = n := ⟨_, rfl⟩
    obtain ⟨g, cap, hqa⟩ := h.at hn (by omega)
    have e := c1.symm.trans hqa.c1
    cases e
    have hfr : ∀ x ∈ L, FrR w x := fun x hx => ⟨(h.frac x hx).1, (h.frac x hx).2, h.ok x hx⟩
    obtain ⟨D, hD⟩ : ∃ D : List (Ea w), D.map Subtype.val = L := ⟨L.attach.map fun x => ⟨x.1, hfr x.1 x.2⟩, by simp⟩
    have hDl : D.length = n := by rw [← hn, ← hD, List.length_map]
    haveI : Inhabited (Ea w) := ⟨D[0]'(by omega)⟩
    have hH := own_holds D (by rw [hD]; exact hqa.own) hDl
    refine (stable_rows D.toArray (by simpa using hDl) (by omega) (by omega) hH hqa.ty hqa.c1 h.ty).mono ?_
    rintro e w' ⟨he, d', hs, hp, hw, ho, hb⟩
    have hr := reown hqa.own d' hs hb
    have hperm : (d'.toList.map Subtype.val).Perm L := by
      have := hp.map Subtype.val
      simpa [hD] using this
    have hlen : (d'.toList.map Subtype.val).length = n := by simp [hs]
    have hgq : qb ∉ [g] := fun hm => hqa.ne (List.mem_singleton.1 hm).symm
    have hbl := ho.block qb h.ty.lt hgq
    have hS : ∀ s ∈ [g], ∃ t, TyB w s t ∧ t ≠ 76 := fun s hs => ⟨60, by rw [List.mem_singleton.1 hs]; exact hqa.ty, by decide⟩
    refine ⟨he, d'.toList.map Subtype.val, hperm, ?_, ⟨(World.cell?_of_block (a := ⟨qb, 0, none⟩) hbl).trans h.c0, ⟨_, (World.cell?_of_block (a := ⟨qb, 1, none⟩) hbl).trans c1, by rw [hlen]; exact hr⟩, h.thaw.same hbl, h.ty.same hbl, h.base, fun x hx => ?_, fun x hx => h.ok x (hperm.mem_iff.1 hx)⟩, ?_⟩
    · rw [List.pairwise_map]
      exact hw
    · have := h.frac x (hperm.mem_iff.1 hx)
      exact ⟨this.1.only ho hS, this.2.only ho hS⟩
    · exact (Qt.refl B w).only ho (fun s hs => by rw [List.mem_singleton.1 hs]; exact ⟨.inl hqa.ty, hqa.base⟩) fun s hs t h6 hst => by
        rw [List.mem_singleton.1 hs] at hst
        exact absurd (hqa.ty.uniq hst).symm h6
  · obtain ⟨a, cap, c2, -⟩ := h.list (by omega)
    have e := c1.symm.trans c2
    cases e
    refine (entry_tiny a L.length cap (by omega) _ _ _ w).mono ?_
    rintro e w' ⟨he, hb⟩
    refine ⟨he, L, List.Perm.refl _, ?_, h.keep hb, Qt.of_below hb B⟩
    match L, h2 with
    | [], _ => exact List.Pairwise.nil
    | [x], _ => exact List.pairwise_singleton _ _
    | _ :: _ :: _, h2 => simp at h2
end Go.Proofs.Ytgnmolleaengaaa
