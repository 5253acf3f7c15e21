/- The plain law of Schedule: how many run, which, and that a second Schedule changes nothing. -/
import Derived.Test.YtgnmolleaengaaaGreatTa
set_option linter.unusedVariables false
set_option linter.unusedSimpArgs false
set_option linter.unnecessarySimpa false
namespace Go.Proofs.YtgnmolleaengaaaGreat
open Go

theorem sch_map {β : Type} (f : En → β) (hf : ∀ r x, f (setRun r x) = f x) : ∀ (L : List En) (c : Int), (schL c L).map f = L.map f
  | [], _ => rfl
  | x :: L, c => by rw [schL, List.map_cons, List.map_cons, hf, sch_map f hf L]
theorem held_le (L : List En) : (L.filter En.held).length ≤ L.length := List.length_filter_le _ _
theorem sch_count : ∀ (L : List En) (c : Int), ((schL c L).filter En.run).length = (L.filter En.held).length + min c.toNat (L.length - (L.filter En.held).length)
  | [], c => by simp [schL]
  | x :: L, c => by
    have hl := held_le L
    rw [schL, List.filter_cons, List.filter_cons, List.length_cons]
    cases hh : x.held with
    | true =>
      have e1 : runOf c x = true := by simp [runOf, hh]
      have e2 : cnt c x = c := by simp [cnt, hh]
      rw [if_pos (show (setRun (runOf c x) x).run = true from e1), if_pos rfl, e2, List.length_cons, List.length_cons, sch_count L c]
      omega
    | false =>
      by_cases hc : 0 < c
      · have e1 : runOf c x = true := by simp [runOf, hh, hc]
        have e2 : cnt c x = c - 1 := by simp [cnt, hh, hc]
        rw [if_pos (show (setRun (runOf c x) x).run = true from e1), if_neg (by simp), e2, List.length_cons, sch_count L (c - 1)]
        omega
      · have e1 : runOf c x = false := by simp [runOf, hh, hc]
        have e2 : cnt c x = c := by simp [cnt, hh, hc]
        rw [if_neg (show ¬ (setRun (runOf c x) x).run = true by show ¬ runOf c x = true; rw [e1]; simp), if_neg (by simp), e2, sch_count L c]
        omega
theorem sch_held : ∀ (L : List En) (c : Int), ∀ y ∈ schL c L, y.held = true → y.run = true
  | [], _, y, hy, _ => by cases hy
  | x :: L, c, y, hy, hh => by
    rw [schL] at hy
    rcases List.mem_cons.1 hy with rfl | hy
    · show runOf c x = true
      have : x.held = true := hh
      simp [runOf, this]
    · exact sch_held L _ y hy hh
theorem sch_pos : ∀ (L : List En) (c : Int), ∀ y ∈ schL c L, y.run = true → y.held = false → 0 < c
  | [], _, y, hy, _, _ => by cases hy
  | x :: L, c, y, hy, hr, hh => by
    rw [schL] at hy
    rcases List.mem_cons.1 hy with rfl | hy
    · have h1 : runOf c x = true := hr
      have h2 : x.held = false := hh
      simpa [runOf, h2] using h1
    · have := sch_pos L _ y hy hr hh
      unfold cnt at this
      split at this
      · exact this
      · split at this
        · assumption
        · exact this
theorem sch_order : ∀ (L : List En) (c : Int), (schL c L).Pairwise (fun x y => y.run = true → y.held = false → x.run = true)
  | [], _ => List.Pairwise.nil
  | x :: L, c => by
    rw [schL, List.pairwise_cons]
    refine ⟨fun y hy hr hh => ?_, sch_order L _⟩
    have h1 := sch_pos L _ y hy hr hh
    show runOf c x = true
    unfold runOf
    unfold cnt at h1
    cases hx : x.held with
    | true => rfl
    | false =>
      rw [hx] at h1
      simp only [Bool.false_eq_true, if_false] at h1
      split at h1
      · rename_i h; simp [h]
      · simp [h1]
theorem sch_twice : ∀ (L : List En) (c : Int), schL c (schL c L) = schL c L ∧ schS c (schL c L) = [] ∧ schP c (schL c L) = []
  | [], _ => ⟨rfl, rfl, rfl⟩
  | x :: L, c => by
    have e1 : runOf c (setRun (runOf c x) x) = runOf c x := rfl
    have e2 : cnt c (setRun (runOf c x) x) = cnt c x := rfl
    obtain ⟨h1, h2, h3⟩ := sch_twice L (cnt c x)
    refine ⟨?_, ?_, ?_⟩
    · rw [schL, schL, e1, e2, h1]; rfl
    · rw [schL, schS, e1, e2, h2]
      have : (setRun (runOf c x) x).run = runOf c x := rfl
      rw [this]
      cases runOf c x <;> rfl
    · rw [schL, schP, e1, e2, h3]
      have : (setRun (runOf c x) x).run = runOf c x := rfl
      rw [this]
      cases runOf c x <;> rfl
theorem slots_sch (s : Int) (L : List En) (c : Int) : slotsL s (schL c L) = slotsL s L := by
  unfold slotsL
  have := congrArg (fun l => (l.filter id).length) (sch_map En.held (fun _ _ => rfl) L c)
  simp only [List.filter_map, List.length_map] at this
  rw [show (id ∘ En.held) = En.held from rfl] at this
  rw [this]
theorem In2.held_le {n : Nat} {L : List En} {Sd : List Ky} (h : In2 n L Sd) : (L.filter En.held).length ≤ n := by
  refine Nat.le_trans ?_ h.rn
  have e : L.filter En.held = (L.filter En.run).filter En.held := by
    rw [List.filter_filter]
    refine List.filter_congr fun x hx => ?_
    cases hh : x.held with
    | false => simp
    | true => rw [h.hr x hx hh]; rfl
  rw [e]
  exact List.length_filter_le _ _
theorem In2.count {n : Nat} {L : List En} {Sd : List Ky} (h : In2 n L Sd) : ((schL (slotsL n L) L).filter En.run).length = min n L.length := by
  have h1 := h.held_le
  have h2 := Go.Proofs.YtgnmolleaengaaaGreat.held_le L
  rw [sch_count]
  unfold slotsL
  omega
theorem In2.sch {n : Nat} {L : List En} {Sd : List Ky} (h : In2 n L Sd) : In2 n (schL (slotsL n L) L) Sd := by
  have hj : (schL (slotsL n L) L).map (·.j) = L.map (·.j) := sch_map _ (fun _ _ => rfl) _ _
  have hk : (schL (slotsL n L) L).map En.key = L.map En.key := sch_map _ (fun _ _ => rfl) _ _
  have hm : (schL (slotsL n L) L).map (fun x => (x.key, x.held)) = L.map (fun x => (x.key, x.held)) := sch_map _ (fun _ _ => rfl) _ _
  refine ⟨⟨by rw [hk]; exact h.kd.nd, fun x hx => ?_⟩, srt_of_jobs hj h.srt, sch_held _ _, by rw [h.count]; omega, fun q => ?_⟩
  · have : x.j ∈ (schL (slotsL n L) L).map (·.j) := List.mem_map.2 ⟨x, hx, rfl⟩
    rw [hj] at this
    obtain ⟨y, hy, e⟩ := List.mem_map.1 this
    rw [← e]
    exact h.kd.ok y hy
  · rw [h.sd]
    have key : ∀ M : List En, (∃ x ∈ M, x.held = true ∧ x.key = q) ↔ (q, true) ∈ M.map (fun x => (x.key, x.held)) := fun M => by
      rw [List.mem_map]
      constructor
      · rintro ⟨x, hx, hh, rfl⟩; exact ⟨x, hx, by rw [hh]⟩
      · rintro ⟨x, hx, e⟩; exact ⟨x, hx, congrArg Prod.snd e, congrArg Prod.fst e⟩
    rw [key, key, hm]
/-- the order of neighbours -/
theorem In2.next {n : Nat} {L : List En} {Sd : List Ky} (h : In2 n L Sd) {i : Nat} {x y : En} (hx : L[i]? = some x) (hy : L[i + 1]? = some y) : beforeF x.j y.j = true := by
  obtain ⟨h1, rfl⟩ := List.getElem?_eq_some_iff.1 hx
  obtain ⟨h2, rfl⟩ := List.getElem?_eq_some_iff.1 hy
  have hs := List.pairwise_iff_getElem.1 h.srt i (i + 1) h1 h2 (by omega)
  have hn := h.kd.nd
  rw [List.nodup_iff_pairwise_ne, List.pairwise_map, List.pairwise_iff_getElem] at hn
  have hne := hn i (i + 1) h1 h2 (by omega)
  have o1 := h.kd.ok _ (List.getElem_mem h1)
  have o2 := h.kd.ok _ (List.getElem_mem h2)
  cases hb : beforeF (L[i]).j (L[i + 1]).j with
  | true => rfl
  | false =>
    have := before_total o1 o2 hne hb
    rw [show beforeF (L[i + 1]).j (L[i]).j = ltE L[i + 1] L[i] from rfl, hs] at this
    cases this
theorem mem_run {L : List En} (h : Kd L) {x : En} (hx : x ∈ L) : x.key ∈ keysP En.run L ↔ x.run = true := by
  unfold keysP
  rw [List.mem_map]
  constructor
  · rintro ⟨y, hy, e⟩
    obtain ⟨h1, h2⟩ := List.mem_filter.1 hy
    rw [← h.uniq h1 hx e]
    exact h2
  · exact fun hr => ⟨x, List.mem_filter.2 ⟨hx, hr⟩, rfl⟩
theorem In2.mem_held {n : Nat} {L : List En} {Sd : List Ky} (h : In2 n L Sd) {x : En} (hx : x ∈ L) : x.key ∈ Sd ↔ x.held = true := by
  rw [h.sd]
  constructor
  · rintro ⟨y, hy, hh, e⟩
    rw [← h.kd.uniq hy hx e]
    exact hh
  · exact fun hh => ⟨x, hx, hh, rfl⟩
/-- sorted lists of the same distinct keys are equal -/
theorem keys_same {A B M : List Ky} (hA : A.Perm M) (hB : B.Perm M) (sA : A.Pairwise (fun x y => ltK y x = false)) (sB : B.Pairwise (fun x y => ltK y x = false)) : A = B :=
  List.Perm.eq_of_pairwise (le := fun x y => ltK y x = false) (fun x y _ _ h1 h2 => by
    obtain ⟨a, b⟩ := x
    obtain ⟨c, d⟩ := y
    unfold ltK at h1 h2
    simp only at h1 h2
    split at h1 <;> split at h2 <;> simp_all <;> omega) sA sB (hA.trans hB.symm)
/-- has an entry before k been left waiting? -/
def waitsB (L : List En) (k : Nat) : Bool := (L.take k).any fun x => !x.run
theorem waits_succ {L : List En} {k : Nat} {x : En} (h : L[k]? = some x) : waitsB L (k + 1) = (waitsB L k || !x.run) := by
  unfold waitsB
  rw [take_snoc h, List.any_append]
  simp
theorem waits_not {L : List En} (ho : L.Pairwise (fun x y => y.run = true → y.held = false → x.run = true)) {k : Nat} {x : En} (h : L[k]? = some x) (hr : x.run = true) (hh : x.held = false) : waitsB L k = false := by
  unfold waitsB
  rw [List.any_eq_false]
  intro y hy
  obtain ⟨h1, rfl⟩ := List.getElem?_eq_some_iff.1 h
  obtain ⟨i, hi, rfl⟩ := List.getElem_of_mem hy
  rw [List.length_take] at hi
  rw [List.getElem_take]
  have := List.pairwise_iff_getElem.1 ho i k (by omega) h1 (by omega) hr hh
  rw [this]
  simp
end Go.Proofs.YtgnmolleaengaaaGreat
