/- Plain law of MarginMinimal, second half: a loss is fatal iff it holds a whole cut. -/
import Derived.Test.YthljjllcdocfiaaG1
set_option linter.unusedVariables false
set_option linter.unusedSimpArgs false
set_option linter.unnecessarySimpa false
namespace Go.Proofs.Ythljjllcdocfiaa
open Go

/-- a subset of the drives, in order -/
def inD (d S : List Int) : List Int := chL d (maskOf d (fun x => hasI S x) d.length)
theorem mem_inD {d S : List Int} {x : Int} : x ∈ inD d S ↔ x ∈ d ∧ x ∈ S := by
  unfold inD
  rw [mem_maskOf, hasI_iff]
/-- a fatal set of drives holds a smallest one -/
theorem has_least {k st : Int} {l : List Cp} {d : List Int} (hd : d.Nodup) : ∀ (n m : Nat), m < 2 ^ d.length → (chL d m).length ≤ n → survF k st l (chL d m) = false → ∃ m', m' < 2 ^ d.length ∧ (∀ x ∈ chL d m', x ∈ chL d m) ∧ cutB k st l (chL d m') = true := by
  intro n
  induction n with
  | zero =>
    intro m hm hn hs
    refine ⟨m, hm, fun x hx => hx, ?_⟩
    have : minB k st l (chL d m) = true := minB_iff.2 fun i hi => by omega
    unfold cutB
    rw [hs, this]
    rfl
  | succ n ih =>
    intro m hm hn hs
    cases hq : minB k st l (chL d m) with
    | true => exact ⟨m, hm, fun x hx => hx, by unfold cutB; rw [hs, hq]; rfl⟩
    | false =>
      have : ∃ j, j < (chL d m).length ∧ survF k st l (cutI (chL d m) j) = false := by
        apply Classical.byContradiction
        intro hne
        have : minB k st l (chL d m) = true := minB_iff.2 fun i hi => by
          cases hc : survF k st l (cutI (chL d m) i) with
          | true => rfl
          | false => exact absurd ⟨i, hi, hc⟩ hne
        rw [this] at hq
        exact absurd hq (by decide)
      obtain ⟨j, hj, hc⟩ := this
      have hnd := ch_nodup hd m
      have hmem : ∀ x, x ∈ inD d (cutI (chL d m) j) ↔ x ∈ cutI (chL d m) j := by
        intro x
        rw [mem_inD]
        refine ⟨fun h => h.2, fun h => ⟨?_, h⟩⟩
        rw [mem_cut hnd hj, mem_ch] at h
        obtain ⟨⟨i, hi, _, rfl⟩, _⟩ := h
        rw [show d.getD i 0 = d[i] by simp [hi]]
        exact List.getElem_mem _
      have hsub : (inD d (cutI (chL d m) j)).length ≤ (cutI (chL d m) j).length := by
        have h1 : (inD d (cutI (chL d m) j)).Nodup := ch_nodup hd _
        have h2 : (cutI (chL d m) j).Nodup := by
          have e : chL d m = (chL d m).take j ++ ((chL d m)[j] :: (chL d m).drop (j + 1)) := by simp
          rw [e] at hnd
          unfold cutI
          exact hnd.sublist (List.Sublist.append (List.Sublist.refl _) (List.sublist_cons_self _ _))
        exact Nat.le_of_eq ((List.perm_ext_iff_of_nodup h1 h2).2 hmem).length_eq
      rw [cutI_len hj] at hsub
      obtain ⟨m', hm', h1, h2⟩ := ih (maskOf d (fun x => hasI (cutI (chL d m) j) x) d.length) (mask_lt _ _ _) (by show (inD d _).length ≤ n; omega) (by
        rw [← hc]
        exact surv_drives fun x hx => hmem x)
      exact ⟨m', hm', fun x hx => ((mem_cut hnd hj).1 ((hmem x).1 (h1 x hx))).1, h2⟩
/-- a loss is fatal iff it holds a whole cut -/
theorem fatal_iff {k s : Int} (h1 : 0 ≤ k) (h2 : k < 4) (h3 : 0 ≤ s) (h4 : s < 4) {l : List Cp} (hl : (drvL l).length ≤ 10) (down : List Int) :
    survF (1 + k) (1 + s) l down = false ↔ ∃ S ∈ (cutsF (1 + k) (1 + s) l).1, ∀ x ∈ S, x ∈ down := by
  have hv := valid_small h1 h2 h3 h4
  have hnd := drv_nodup l
  have e : (cutsF (1 + k) (1 + s) l).1 = cutsR (1 + k) (1 + s) l (drvL l) (2 ^ (drvL l).length) := by
    unfold cutsF
    rw [if_pos hv, if_neg (by omega)]
  rw [e]
  constructor
  · intro hs
    have hs' : survF (1 + k) (1 + s) l (inD (drvL l) down) = false := by
      rw [← hs]
      exact surv_drives fun x hx => by rw [mem_inD]; exact ⟨fun h => h.2, fun h => ⟨hx, h⟩⟩
    obtain ⟨m', hm', q1, q2⟩ := has_least hnd _ _ (mask_lt _ _ _) (Nat.le_refl _) hs'
    exact ⟨chL (drvL l) m', (mem_cutsR hnd (by omega) (Nat.le_refl _)).2 ⟨m', hm', rfl, q2⟩, fun x hx => (mem_inD.1 (q1 x hx)).2⟩
  · rintro ⟨S, hS, hx⟩
    obtain ⟨m, _, rfl, hc⟩ := (mem_cutsR hnd (by omega) (Nat.le_refl _)).1 hS
    unfold cutB at hc
    rw [Bool.and_eq_true] at hc
    cases hq : survF (1 + k) (1 + s) l down with
    | false => rfl
    | true =>
      have := surv_fewer h1 h2 h3 h4 hx hq
      rw [this] at hc
      exact absurd hc.1 (by decide)
/-- each cut is fatal and none of its drives can be spared -/
theorem cut_facts {k s : Int} (h1 : 0 ≤ k) (h2 : k < 4) (h3 : 0 ≤ s) (h4 : s < 4) {l : List Cp} (hl : (drvL l).length ≤ 10) {S : List Int} (hS : S ∈ (cutsF (1 + k) (1 + s) l).1) :
    survF (1 + k) (1 + s) l S = false ∧ (∀ j, j < S.length → survF (1 + k) (1 + s) l (cutI S j) = true) ∧ S.length ≤ 10 := by
  have hv := valid_small h1 h2 h3 h4
  have hnd := drv_nodup l
  have e : (cutsF (1 + k) (1 + s) l).1 = cutsR (1 + k) (1 + s) l (drvL l) (2 ^ (drvL l).length) := by
    unfold cutsF
    rw [if_pos hv, if_neg (by omega)]
  rw [e] at hS
  obtain ⟨m, _, rfl, hc⟩ := (mem_cutsR hnd (by omega) (Nat.le_refl _)).1 hS
  unfold cutB at hc
  rw [Bool.and_eq_true] at hc
  refine ⟨by simpa using hc.1, minB_iff.1 hc.2, ?_⟩
  have := chK_len (drvL l) m (drvL l).length
  unfold chL
  omega
end Go.Proofs.Ythljjllcdocfiaa
