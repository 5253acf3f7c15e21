/- Plain law of MarginMinimal, third part: what its loops gather. -/
import Derived.Test.YthljjllcdocfiaaG2
set_option linter.unusedVariables false
set_option linter.unusedSimpArgs false
set_option linter.unnecessarySimpa false
namespace Go.Proofs.Ythljjllcdocfiaa
open Go

/-- are the first j drives of the set all down -/
def hitK (D S : List Int) (j : Nat) : Bool := (S.take j).all (hasI D)
theorem hitK_zero (D S : List Int) : hitK D S 0 = true := by simp [hitK]
theorem hitK_succ {D S : List Int} {j : Nat} (h : j < S.length) : hitK D S (j + 1) = (hitK D S j && hasI D (S.getD j 0)) := by
  unfold hitK
  rw [List.take_add_one, List.all_append, List.getElem?_eq_getElem h, show S.getD j 0 = S[j] by simp [h]]
  simp
theorem hitK_all (D S : List Int) : hitK D S S.length = true ↔ ∀ x ∈ S, x ∈ D := by
  unfold hitK
  rw [List.take_length, List.all_eq_true]
  exact ⟨fun h x hx => hasI_iff.1 (h x hx), fun h x hx => hasI_iff.2 (h x hx)⟩
/-- does one of the first i cuts lie inside -/
def insK (D : List Int) (L : List (List Int)) (i : Nat) : Bool := (L.take i).any fun S => hitK D S S.length
theorem insK_zero (D : List Int) (L : List (List Int)) : insK D L 0 = false := by simp [insK]
theorem insK_succ {D : List Int} {L : List (List Int)} {i : Nat} {S : List Int} (h : L[i]? = some S) : insK D L (i + 1) = (insK D L i || hitK D S S.length) := by
  unfold insK
  rw [List.take_add_one, List.any_append, h]
  simp
theorem insK_all (D : List Int) (L : List (List Int)) : insK D L L.length = true ↔ ∃ S ∈ L, ∀ x ∈ S, x ∈ D := by
  unfold insK
  rw [List.take_length, List.any_eq_true]
  exact ⟨fun ⟨S, h, q⟩ => ⟨S, h, (hitK_all _ _).1 q⟩, fun ⟨S, h, q⟩ => ⟨S, h, (hitK_all _ _).2 q⟩⟩
/-- few drives -/
theorem few_drives {l : List Cp} {N : Nat} (h : ∀ c ∈ l, 0 ≤ c.2.1 ∧ c.2.1 < N) : (drvL l).length ≤ N := by
  have h1 := drv_nodup l
  have h2 : (((List.range N).map (fun (i : Nat) => (i : Int))).filter fun x => decide (x ∈ drvL l)).Nodup := by
    refine List.Pairwise.filter _ ?_
    rw [List.pairwise_map]
    exact List.nodup_range.imp fun h e => h (Int.ofNat.inj e)
  have h3 := ((List.perm_ext_iff_of_nodup h1 h2).2 fun x => by
    rw [List.mem_filter, List.mem_map]
    constructor
    · intro hx
      refine ⟨?_, by simpa using hx⟩
      obtain ⟨c, hc, _, rfl⟩ := mem_drv.1 hx
      have := h c hc
      exact ⟨c.2.1.toNat, List.mem_range.2 (by omega), by omega⟩
    · intro hx
      simpa using hx.2).length_eq
  rw [h3]
  refine Nat.le_trans (List.length_filter_le _ _) ?_
  simp
theorem few_near (l : List Cp) : (drvL (nearL l)).length ≤ 7 := few_drives (N := 7) fun c hc => by
  unfold nearL at hc
  obtain ⟨b, _, rfl⟩ := List.mem_map.1 hc
  unfold nearC
  simp
  omega
/-- the cuts of near copies are found -/
theorem cuts_near {k s : Int} (h1 : 0 ≤ k) (h2 : k < 4) (h3 : 0 ≤ s) (h4 : s < 4) {l : List Cp} {L : List (List Int)} {e : Int} (hc : cutsF (1 + k) (1 + s) (nearL l) = (L, e)) :
    e = 0 ∧ (∀ S ∈ L, survF (1 + k) (1 + s) (nearL l) S = false ∧ (∀ j, j < S.length → survF (1 + k) (1 + s) (nearL l) (cutI S j) = true) ∧ S.length ≤ 10) ∧
    ∀ D, insK D L L.length = !survF (1 + k) (1 + s) (nearL l) D := by
  have hv := valid_small h1 h2 h3 h4
  have hf := few_near l
  have eL : (cutsF (1 + k) (1 + s) (nearL l)).1 = L := by rw [hc]
  refine ⟨?_, fun S hS => cut_facts h1 h2 h3 h4 (by omega) (by rw [eL]; exact hS), fun D => ?_⟩
  · unfold cutsF at hc
    rw [if_pos hv, if_neg (by omega)] at hc
    exact (Prod.mk.inj hc).2.symm
  · have := fatal_iff h1 h2 h3 h4 (l := nearL l) (by omega) D
    rw [eL, ← insK_all] at this
    cases hq : insK D L L.length <;> cases hz : survF (1 + k) (1 + s) (nearL l) D <;> simp_all
end Go.Proofs.Ythljjllcdocfiaa
