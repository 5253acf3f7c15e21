/- Queues with distinct keys; the plain law of RepairqUrgent. -/
import Derived.Test.YtgnmolleaengaaaGreatS7
set_option linter.unusedVariables false
set_option linter.unusedSimpArgs false
set_option linter.unnecessarySimpa false
namespace Go.Proofs.YtgnmolleaengaaaGreat
open Go

/-- distinct keys in range -/
structure Kd (L : List En) : Prop where
  nd : (L.map En.key).Nodup
  ok : ∀ x ∈ L, OkJ x.j
theorem nodup_le : ∀ (n : Nat) (l : List Nat), l.Nodup → (∀ x ∈ l, x < n) → l.length ≤ n
  | 0, l, _, h => by
    match l, h with
    | [], _ => simp
    | x :: _, h => exact absurd (h x (by simp)) (by omega)
  | n + 1, l, hn, h => by
    have h1 : (l.erase n).Nodup := hn.erase n
    have h2 := nodup_le n (l.erase n) h1 fun x hx => by
      have := h x (List.mem_of_mem_erase hx)
      have hne : x ≠ n := fun e => by
        subst e
        exact absurd hx (by rw [hn.mem_erase_iff]; simp)
      omega
    rw [List.length_erase] at h2
    split at h2 <;> omega
theorem Kd.len {L : List En} (h : Kd L) : L.length ≤ 9 := by
  have h1 : (L.map fun x => (x.j.vol * 3 + x.j.frag).toNat).Nodup := by
    have := h.nd
    rw [List.nodup_iff_pairwise_ne, List.pairwise_map] at this ⊢
    refine this.imp_of_mem fun {a b} ha hb hne e => hne ?_
    obtain ⟨⟨v1, v2⟩, ⟨f1, f2⟩, -⟩ := h.ok a ha
    obtain ⟨⟨v3, v4⟩, ⟨f3, f4⟩, -⟩ := h.ok b hb
    show (a.j.vol, a.j.frag) = (b.j.vol, b.j.frag)
    rw [show a.j.vol = b.j.vol by omega, show a.j.frag = b.j.frag by omega]
  have := nodup_le 9 _ h1 fun x hx => by
    obtain ⟨a, ha, rfl⟩ := List.mem_map.1 hx
    obtain ⟨⟨v1, v2⟩, ⟨f1, f2⟩, -⟩ := h.ok a ha
    show (a.j.vol * 3 + a.j.frag).toNat < 9
    omega
  simpa using this
theorem Kd.perm {L M : List En} (h : Kd L) (hp : M.Perm L) : Kd M := ⟨(hp.map En.key).nodup_iff.2 h.nd, fun x hx => h.ok x (hp.mem_iff.1 hx)⟩
theorem Kd.set {L : List En} (h : Kd L) {i : Nat} {x y : En} (hx : L[i]? = some x) (hy : y.key = x.key) (ho : OkJ y.j) : Kd (L.set i y) := by
  have e : (L.set i y).map En.key = L.map En.key := by
    rw [List.map_set, hy]
    apply List.ext_getElem?
    intro t
    rw [List.getElem?_set]
    split
    · rename_i ht
      subst ht
      have hl := (List.getElem?_eq_some_iff.1 hx).1
      simp [hl, (List.getElem?_eq_some_iff.1 hx).2]
    · rfl
  exact ⟨by rw [e]; exact h.nd, fun z hz => by
    rcases List.mem_or_eq_of_mem_set hz with hz | rfl
    · exact h.ok z hz
    · exact ho⟩
theorem Kd.snoc {L : List En} (h : Kd L) {y : En} (hy : idxF y.key L = -1) (ho : OkJ y.j) : Kd (L ++ [y]) := by
  have hno : ∀ x ∈ L, x.key ≠ y.key := by
    unfold idxF at hy
    split at hy
    · omega
    · rename_i hf
      intro x hx e
      have := List.findIdx?_eq_none_iff.1 hf x hx
      rw [keyB, decide_eq_false_iff_not] at this
      exact this e
  refine ⟨?_, fun z hz => ?_⟩
  · rw [List.map_append, List.nodup_append]
    refine ⟨h.nd, by simp, ?_⟩
    intro a ha b hb
    obtain ⟨x, hx, rfl⟩ := List.mem_map.1 ha
    have hb' : b = y.key := by simpa using hb
    rw [hb']
    exact hno x hx
  · rcases List.mem_append.1 hz with hz | hz
    · exact h.ok z hz
    · rw [List.mem_singleton.1 hz]; exact ho
theorem Kd.erase {L : List En} (h : Kd L) (i : Nat) : Kd (L.eraseIdx i) := ⟨((List.eraseIdx_sublist L i).map En.key).nodup h.nd, fun x hx => h.ok x (List.mem_of_mem_eraseIdx hx)⟩


/-- the keys' own uniqueness -/
theorem Kd.uniq {L : List En} (h : Kd L) {x y : En} (hx : x ∈ L) (hy : y ∈ L) (e : x.key = y.key) : x = y := by
  obtain ⟨i, hi, rfl⟩ := List.getElem_of_mem hx
  obtain ⟨j, hj, rfl⟩ := List.getElem_of_mem hy
  have hn := h.nd
  rw [List.nodup_iff_pairwise_ne, List.pairwise_map, List.pairwise_iff_getElem] at hn
  rcases Nat.lt_trichotomy i j with h1 | h1 | h1
  · exact absurd e (hn i j hi hj h1)
  · subst h1; rfl
  · exact absurd e.symm (hn j i hj hi h1)
theorem Kd.mem_erase {L : List En} (h : Kd L) {i : Nat} {x : En} (hx : L[i]? = some x) (y : En) : y ∈ L.eraseIdx i ↔ y ∈ L ∧ y.key ≠ x.key := by
  have hi : i < L.length := (List.getElem?_eq_some_iff.1 hx).1
  have hg : L[i] = x := (List.getElem?_eq_some_iff.1 hx).2
  rw [List.mem_eraseIdx_iff_getElem]
  constructor
  · rintro ⟨j, hj, hne, rfl⟩
    refine ⟨List.getElem_mem hj, fun e => hne ?_⟩
    have hn := h.nd
    rw [List.nodup_iff_pairwise_ne, List.pairwise_map, List.pairwise_iff_getElem] at hn
    rw [← hg] at e
    rcases Nat.lt_trichotomy i j with h1 | h1 | h1
    · exact absurd e.symm (hn i j hi hj h1)
    · exact h1.symm
    · exact absurd e (hn j i hj hi h1)
  · rintro ⟨hy, hne⟩
    obtain ⟨j, hj, rfl⟩ := List.getElem_of_mem hy
    exact ⟨j, hj, fun e => hne (by subst e; rw [hg]), rfl⟩
theorem mem_set_iff {L : List En} {i : Nat} {x y z : En} (h : Kd L) (hx : L[i]? = some x) : z ∈ L.set i y ↔ z = y ∨ z ∈ L ∧ z.key ≠ x.key := by
  have hi : i < L.length := (List.getElem?_eq_some_iff.1 hx).1
  have hg : L[i] = x := (List.getElem?_eq_some_iff.1 hx).2
  rw [List.mem_iff_getElem]
  constructor
  · rintro ⟨j, hj, rfl⟩
    rw [List.length_set] at hj
    rw [List.getElem_set]
    split
    · exact .inl rfl
    · rename_i hne
      refine .inr ⟨List.getElem_mem hj, fun e => hne ?_⟩
      have hn := h.nd
      rw [List.nodup_iff_pairwise_ne, List.pairwise_map, List.pairwise_iff_getElem] at hn
      rw [← hg] at e
      rcases Nat.lt_trichotomy i j with h1 | h1 | h1
      · exact absurd e.symm (hn i j hi hj h1)
      · exact h1
      · exact absurd e (hn j i hj hi h1)
  · rintro (rfl | ⟨hz, hne⟩)
    · exact ⟨i, by rw [List.length_set]; exact hi, by simp⟩
    · obtain ⟨j, hj, rfl⟩ := List.getElem_of_mem hz
      refine ⟨j, by rw [List.length_set]; exact hj, ?_⟩
      rw [List.getElem_set, if_neg]
      exact fun e => hne (by subst e; rw [hg])
theorem no_key {k : Ky} {L : List En} (h : idxF k L = -1) : ∀ x ∈ L, x.key ≠ k := by
  unfold idxF at h
  split at h
  · omega
  · rename_i hf
    intro x hx e
    have := List.findIdx?_eq_none_iff.1 hf x hx
    rw [keyB, decide_eq_false_iff_not] at this
    exact this e
theorem filter_set_len {L : List En} {i : Nat} {x y : En} (hx : L[i]? = some x) (hr : y.run = x.run) : ((L.set i y).filter En.run).length = (L.filter En.run).length := by
  induction L generalizing i with
  | nil => simp at hx
  | cons z L ih =>
    cases i with
    | zero =>
      simp at hx
      subst hx
      rw [List.set_cons_zero, List.filter_cons, List.filter_cons, hr]
      split <;> simp
    | succ i =>
      rw [List.set_cons_succ, List.filter_cons, List.filter_cons]
      have := ih (i := i) (by simpa using hx)
      split <;> simp [this]

/-- the state of the law: the sealed keys, the running entries, the order -/
structure In2 (n : Nat) (L : List En) (Sd : List Ky) : Prop where
  kd : Kd L
  srt : L.Pairwise (fun x y => ltE y x = false)
  hr : ∀ x ∈ L, x.held = true → x.run = true
  rn : (L.filter En.run).length ≤ n
  sd : ∀ k, k ∈ Sd ↔ ∃ x ∈ L, x.held = true ∧ x.key = k
theorem In2.nil (n : Nat) : In2 n [] [] := ⟨⟨List.nodup_nil, by simp⟩, List.Pairwise.nil, by simp, by simp, by simp⟩
theorem In2.remove_no {n : Nat} {L : List En} {Sd : List Ky} (h : In2 n L Sd) {k : Ky} (hk : idxF k L = -1) : In2 n L (Sd.filter fun q => decide (q ≠ k)) := by
  refine ⟨h.kd, h.srt, h.hr, h.rn, fun q => ?_⟩
  rw [List.mem_filter, decide_eq_true_eq, h.sd]
  constructor
  · exact fun h => h.1
  · rintro ⟨x, hx, hh, rfl⟩
    exact ⟨⟨x, hx, hh, rfl⟩, no_key hk x hx⟩
theorem In2.remove {n : Nat} {L : List En} {Sd : List Ky} (h : In2 n L Sd) {k : Ky} {i : Nat} {x : En} (hx : L[i]? = some x) (hk : x.key = k) : In2 n (L.eraseIdx i) (Sd.filter fun q => decide (q ≠ k)) := by
  have hs := List.eraseIdx_sublist L i
  refine ⟨h.kd.erase i, h.srt.sublist hs, fun y hy => h.hr y (List.mem_of_mem_eraseIdx hy), Nat.le_trans (hs.filter _).length_le h.rn, fun q => ?_⟩
  rw [List.mem_filter, decide_eq_true_eq, h.sd]
  constructor
  · rintro ⟨⟨y, hy, hh, rfl⟩, hne⟩
    exact ⟨y, (h.kd.mem_erase hx y).2 ⟨hy, by rw [hk]; exact hne⟩, hh, rfl⟩
  · rintro ⟨y, hy, hh, rfl⟩
    obtain ⟨h1, h2⟩ := (h.kd.mem_erase hx y).1 hy
    exact ⟨⟨y, h1, hh, rfl⟩, by rw [← hk]; exact h2⟩
theorem srt_of_jobs {L M : List En} (e : M.map (·.j) = L.map (·.j)) (h : L.Pairwise (fun x y => ltE y x = false)) : M.Pairwise (fun x y => ltE y x = false) := by
  have h1 : (L.map (·.j)).Pairwise (fun a b => decide (ordJ b a < 0) = false) := by
    rw [List.pairwise_map]
    exact h
  rw [← e, List.pairwise_map] at h1
  exact h1
theorem map_set_j {L : List En} {i : Nat} {x y : En} (hx : L[i]? = some x) (hy : y.j = x.j) : (L.set i y).map (·.j) = L.map (·.j) := by
  rw [List.map_set, hy]
  apply List.ext_getElem?
  intro t
  rw [List.getElem?_set]
  split
  · rename_i ht
    subst ht
    have hl := (List.getElem?_eq_some_iff.1 hx).1
    simp [hl, (List.getElem?_eq_some_iff.1 hx).2]
  · rfl
/-- a running entry is sealed -/
theorem In2.hold {n : Nat} {L : List En} {Sd Sd' : List Ky} (h : In2 n L Sd) {i : Nat} {x : En} (hx : L[i]? = some x) (hr : x.run = true) (hS : ∀ q, q ∈ Sd' ↔ q ∈ Sd ∨ q = x.key) : In2 n (L.set i { x with held := true }) Sd' := by
  have hm := List.mem_of_getElem? hx
  refine ⟨h.kd.set hx rfl (h.kd.ok x hm), srt_of_jobs (map_set_j hx rfl) h.srt, fun y hy hh => ?_, by rw [filter_set_len (y := { x with held := true }) hx rfl]; exact h.rn, fun q => ?_⟩
  · rcases List.mem_or_eq_of_mem_set hy with hy | rfl
    · exact h.hr y hy hh
    · exact hr
  · rw [hS, h.sd]
    constructor
    · rintro (⟨y, hy, hh, rfl⟩ | rfl)
      · by_cases e : y.key = x.key
        · exact ⟨_, (mem_set_iff h.kd hx).2 (.inl rfl), rfl, e.symm⟩
        · exact ⟨y, (mem_set_iff h.kd hx).2 (.inr ⟨hy, e⟩), hh, rfl⟩
      · exact ⟨_, (mem_set_iff h.kd hx).2 (.inl rfl), rfl, rfl⟩
    · rintro ⟨y, hy, hh, rfl⟩
      rcases (mem_set_iff h.kd hx).1 hy with rfl | ⟨hy, hne⟩
      · exact .inr rfl
      · exact .inl ⟨y, hy, hh, rfl⟩
theorem In2.put_old {n : Nat} {L L' : List En} {Sd : List Ky} (h : In2 n L Sd) {i : Nat} {x y : En} (hx : L[i]? = some x) (hy : y.key = x.key) (ho : OkJ y.j) (hr : y.run = x.run) (hh : y.held = x.held) (hp : L'.Perm (L.set i y)) (hs : L'.Pairwise (fun x y => ltE y x = false)) : In2 n L' Sd := by
  have hm := List.mem_of_getElem? hx
  refine ⟨(h.kd.set hx hy ho).perm hp, hs, fun z hz hzh => ?_, by rw [(hp.filter _).length_eq, filter_set_len hx hr]; exact h.rn, fun q => ?_⟩
  · rcases List.mem_or_eq_of_mem_set (hp.mem_iff.1 hz) with hz | rfl
    · exact h.hr z hz hzh
    · rw [hr]; exact h.hr x hm (by rw [← hh]; exact hzh)
  · rw [h.sd]
    constructor
    · rintro ⟨z, hz, hzh, rfl⟩
      by_cases e : z.key = x.key
      · have := h.kd.uniq hz hm e
        subst this
        exact ⟨y, hp.mem_iff.2 ((mem_set_iff h.kd hx).2 (.inl rfl)), by rw [hh]; exact hzh, hy⟩
      · exact ⟨z, hp.mem_iff.2 ((mem_set_iff h.kd hx).2 (.inr ⟨hz, e⟩)), hzh, rfl⟩
    · rintro ⟨z, hz, hzh, rfl⟩
      rcases (mem_set_iff h.kd hx).1 (hp.mem_iff.1 hz) with rfl | ⟨hz, hne⟩
      · exact ⟨x, hm, by rw [← hh]; exact hzh, hy.symm⟩
      · exact ⟨z, hz, hzh, rfl⟩
theorem In2.put_new {n : Nat} {L L' : List En} {Sd : List Ky} (h : In2 n L Sd) {y : En} (hy : idxF y.key L = -1) (ho : OkJ y.j) (hr : y.run = false) (hh : y.held = false) (hp : L'.Perm (L ++ [y])) (hs : L'.Pairwise (fun x y => ltE y x = false)) : In2 n L' Sd := by
  refine ⟨(h.kd.snoc hy ho).perm hp, hs, fun z hz hzh => ?_, by rw [(hp.filter _).length_eq, List.filter_append]; simpa [hr] using h.rn, fun q => ?_⟩
  · rcases List.mem_append.1 (hp.mem_iff.1 hz) with hz | hz
    · exact h.hr z hz hzh
    · rw [List.mem_singleton.1 hz, hh] at hzh; cases hzh
  · rw [h.sd]
    constructor
    · rintro ⟨z, hz, hzh, rfl⟩
      exact ⟨z, hp.mem_iff.2 (List.mem_append_left _ hz), hzh, rfl⟩
    · rintro ⟨z, hz, hzh, rfl⟩
      rcases List.mem_append.1 (hp.mem_iff.1 hz) with hz | hz
      · exact ⟨z, hz, hzh, rfl⟩
      · rw [List.mem_singleton.1 hz, hh] at hzh; cases hzh
end Go.Proofs.YtgnmolleaengaaaGreat

/- The plain law of Schedule: how many run, which, and that a second Schedule changes nothing. -/
namespace Go.Proofs.YtgnmolleaengaaaGreat
open Go

theorem sch_map {β : Type} (f : En → β) (hf : ∀ r x, f (setRun r x) = f x) : ∀ (L : List En) (c : Int), (schL c L).map f = L.map f
  | [], _ => rfl
  | x :: L, c => by rw [schL, List.map_cons, List.map_cons, hf, sch_map f hf L]
theorem held_le (L : List En) : (L.filter En.held).length ≤ L.length := List.length_filter_le _ _
theorem sch_count : ∀ (L : List En) (c : Int), ((schL c L).filter En.run).length = (L.filter En.held).length + min c.toNat (L.length - (L.filter En.held).length)
  | [], c => by simp [schL]
  | x :: L, c => by
    have hl := held_le L
    rw [schL, List.filter_cons, List.filter_cons, List.length_cons]
    cases hh : x.held with
    | true =>
      have e1 : runOf c x = true := by simp [runOf, hh]
      have e2 : cnt c x = c := by simp [cnt, hh]
      rw [if_pos (show (setRun (runOf c x) x).run = true from e1), if_pos rfl, e2, List.length_cons, List.length_cons, sch_count L c]
      omega
    | false =>
      by_cases hc : 0 < c
      · have e1 : runOf c x = true := by simp [runOf, hh, hc]
        have e2 : cnt c x = c - 1 := by simp [cnt, hh, hc]
        rw [if_pos (show (setRun (runOf c x) x).run = true from e1), if_neg (by simp), e2, List.length_cons, sch_count L (c - 1)]
        omega
      · have e1 : runOf c x = false := by simp [runOf, hh, hc]
        have e2 : cnt c x = c := by simp [cnt, hh, hc]
        rw [if_neg (show ¬ (setRun (runOf c x) x).run = true by show ¬ runOf c x = true; rw [e1]; simp), if_neg (by simp), e2, sch_count L c]
        omega
theorem sch_held : ∀ (L : List En) (c : Int), ∀ y ∈ schL c L, y.held = true → y.run = true
  | [], _, y, hy, _ => by cases hy
  | x :: L, c, y, hy, hh => by
    rw [schL] at hy
    rcases List.mem_cons.1 hy with rfl | hy
    · show runOf c x = true
      have : x.held = true := hh
      simp [runOf, this]
    · exact sch_held L _ y hy hh
theorem sch_pos : ∀ (L : List En) (c : Int), ∀ y ∈ schL c L, y.run = true → y.held = false → 0 < c
  | [], _, y, hy, _, _ => by cases hy
  | x :: L, c, y, hy, hr, hh => by
    rw [schL] at hy
    rcases List.mem_cons.1 hy with rfl | hy
    · have h1 : runOf c x = true := hr
      have h2 : x.held = false := hh
      simpa [runOf, h2] using h1
    · have := sch_pos L _ y hy hr hh
      unfold cnt at this
      split at this
      · exact this
      · split at this
        · assumption
        · exact this
theorem sch_order : ∀ (L : List En) (c : Int), (schL c L).Pairwise (fun x y => y.run = true → y.held = false → x.run = true)
  | [], _ => List.Pairwise.nil
  | x :: L, c => by
    rw [schL, List.pairwise_cons]
    refine ⟨fun y hy hr hh => ?_, sch_order L _⟩
    have h1 := sch_pos L _ y hy hr hh
    show runOf c x = true
    unfold runOf
    unfold cnt at h1
    cases hx : x.held with
    | true => rfl
    | false =>
      rw [hx] at h1
      simp only [Bool.false_eq_true, if_false] at h1
      split at h1
      · rename_i h; simp [h]
      · simp [h1]
theorem sch_twice : ∀ (L : List En) (c : Int), schL c (schL c L) = schL c L ∧ schS c (schL c L) = [] ∧ schP c (schL c L) = []
  | [], _ => ⟨rfl, rfl, rfl⟩
  | x :: L, c => by
    have e1 : runOf c (setRun (runOf c x) x) = runOf c x := rfl
    have e2 : cnt c (setRun (runOf c x) x) = cnt c x := rfl
    obtain ⟨h1, h2, h3⟩ := sch_twice L (cnt c x)
    refine ⟨?_, ?_, ?_⟩
    · rw [schL, schL, e1, e2, h1]; rfl
    · rw [schL, schS, e1, e2, h2]
      have : (setRun (runOf c x) x).run = runOf c x := rfl
      rw [this]
      cases runOf c x <;> rfl
    · rw [schL, schP, e1, e2, h3]
      have : (setRun (runOf c x) x).run = runOf c x := rfl
      rw [this]
      cases runOf c x <;> rfl
theorem slots_sch (s : Int) (L : List En) (c : Int) : slotsL s (schL c L) = slotsL s L := by
  unfold slotsL
  have := congrArg (fun l => (l.filter id).length) (sch_map En.held (fun _ _ => rfl) L c)
  simp only [List.filter_map, List.length_map] at this
  rw [show (id ∘ En.held) = En.held from rfl] at this
  rw [this]
theorem In2.held_le {n : Nat} {L : List En} {Sd : List Ky} (h : In2 n L Sd) : (L.filter En.held).length ≤ n := by
  refine Nat.le_trans ?_ h.rn
  have e : L.filter En.held = (L.filter En.run).filter En.held := by
    rw [List.filter_filter]
    refine List.filter_congr fun x hx => ?_
    cases hh : x.held with
    | false => simp
    | true => rw [h.hr x hx hh]; rfl
  rw [e]
  exact List.length_filter_le _ _
theorem In2.count {n : Nat} {L : List En} {Sd : List Ky} (h : In2 n L Sd) : ((schL (slotsL n L) L).filter En.run).length = min n L.length := by
  have h1 := h.held_le
  have h2 := Go.Proofs.YtgnmolleaengaaaGreat.held_le L
  rw [sch_count]
  unfold slotsL
  omega
theorem In2.sch {n : Nat} {L : List En} {Sd : List Ky} (h : In2 n L Sd) : In2 n (schL (slotsL n L) L) Sd := by
  have hj : (schL (slotsL n L) L).map (·.j) = L.map (·.j) := sch_map _ (fun _ _ => rfl) _ _
  have hk : (schL (slotsL n L) L).map En.key = L.map En.key := sch_map _ (fun _ _ => rfl) _ _
  have hm : (schL (slotsL n L) L).map (fun x => (x.key, x.held)) = L.map (fun x => (x.key, x.held)) := sch_map _ (fun _ _ => rfl) _ _
  refine ⟨⟨by rw [hk]; exact h.kd.nd, fun x hx => ?_⟩, srt_of_jobs hj h.srt, sch_held _ _, by rw [h.count]; omega, fun q => ?_⟩
  · have : x.j ∈ (schL (slotsL n L) L).map (·.j) := List.mem_map.2 ⟨x, hx, rfl⟩
    rw [hj] at this
    obtain ⟨y, hy, e⟩ := List.mem_map.1 this
    rw [← e]
    exact h.kd.ok y hy
  · rw [h.sd]
    have key : ∀ M : List En, (∃ x ∈ M, x.held = true ∧ x.key = q) ↔ (q, true) ∈ M.map (fun x => (x.key, x.held)) := fun M => by
      rw [List.mem_map]
      constructor
      · rintro ⟨x, hx, hh, rfl⟩; exact ⟨x, hx, by rw [hh]⟩
      · rintro ⟨x, hx, e⟩; exact ⟨x, hx, congrArg Prod.snd e, congrArg Prod.fst e⟩
    rw [key, key, hm]
/-- the order of neighbours -/
theorem In2.next {n : Nat} {L : List En} {Sd : List Ky} (h : In2 n L Sd) {i : Nat} {x y : En} (hx : L[i]? = some x) (hy : L[i + 1]? = some y) : beforeF x.j y.j = true := by
  obtain ⟨h1, rfl⟩ := List.getElem?_eq_some_iff.1 hx
  obtain ⟨h2, rfl⟩ := List.getElem?_eq_some_iff.1 hy
  have hs := List.pairwise_iff_getElem.1 h.srt i (i + 1) h1 h2 (by omega)
  have hn := h.kd.nd
  rw [List.nodup_iff_pairwise_ne, List.pairwise_map, List.pairwise_iff_getElem] at hn
  have hne := hn i (i + 1) h1 h2 (by omega)
  have o1 := h.kd.ok _ (List.getElem_mem h1)
  have o2 := h.kd.ok _ (List.getElem_mem h2)
  cases hb : beforeF (L[i]).j (L[i + 1]).j with
  | true => rfl
  | false =>
    have := before_total o1 o2 hne hb
    rw [show beforeF (L[i + 1]).j (L[i]).j = ltE L[i + 1] L[i] from rfl, hs] at this
    cases this
theorem mem_run {L : List En} (h : Kd L) {x : En} (hx : x ∈ L) : x.key ∈ keysP En.run L ↔ x.run = true := by
  unfold keysP
  rw [List.mem_map]
  constructor
  · rintro ⟨y, hy, e⟩
    obtain ⟨h1, h2⟩ := List.mem_filter.1 hy
    rw [← h.uniq h1 hx e]
    exact h2
  · exact fun hr => ⟨x, List.mem_filter.2 ⟨hx, hr⟩, rfl⟩
theorem In2.mem_held {n : Nat} {L : List En} {Sd : List Ky} (h : In2 n L Sd) {x : En} (hx : x ∈ L) : x.key ∈ Sd ↔ x.held = true := by
  rw [h.sd]
  constructor
  · rintro ⟨y, hy, hh, e⟩
    rw [← h.kd.uniq hy hx e]
    exact hh
  · exact fun hh => ⟨x, hx, hh, rfl⟩
/-- sorted lists of the same distinct keys are equal -/
theorem keys_same {A B M : List Ky} (hA : A.Perm M) (hB : B.Perm M) (sA : A.Pairwise (fun x y => ltK y x = false)) (sB : B.Pairwise (fun x y => ltK y x = false)) : A = B :=
  List.Perm.eq_of_pairwise (le := fun x y => ltK y x = false) (fun x y _ _ h1 h2 => by
    obtain ⟨a, b⟩ := x
    obtain ⟨c, d⟩ := y
    unfold ltK at h1 h2
    simp only at h1 h2
    split at h1 <;> split at h2 <;> simp_all <;> omega) sA sB (hA.trans hB.symm)
/-- has an entry before k been left waiting? -/
def waitsB (L : List En) (k : Nat) : Bool := (L.take k).any fun x => !x.run
theorem waits_succ {L : List En} {k : Nat} {x : En} (h : L[k]? = some x) : waitsB L (k + 1) = (waitsB L k || !x.run) := by
  unfold waitsB
  rw [take_snoc h, List.any_append]
  simp
theorem waits_not {L : List En} (ho : L.Pairwise (fun x y => y.run = true → y.held = false → x.run = true)) {k : Nat} {x : En} (h : L[k]? = some x) (hr : x.run = true) (hh : x.held = false) : waitsB L k = false := by
  unfold waitsB
  rw [List.any_eq_false]
  intro y hy
  obtain ⟨h1, rfl⟩ := List.getElem?_eq_some_iff.1 h
  obtain ⟨i, hi, rfl⟩ := List.getElem_of_mem hy
  rw [List.length_take] at hi
  rw [List.getElem_take]
  have := List.pairwise_iff_getElem.1 ho i k (by omega) h1 (by omega) hr hh
  rw [this]
  simp
end Go.Proofs.YtgnmolleaengaaaGreat
