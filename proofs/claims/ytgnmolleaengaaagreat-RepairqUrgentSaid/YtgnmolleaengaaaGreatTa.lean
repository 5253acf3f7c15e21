/- Queues with distinct keys; the plain law of RepairqUrgent. -/
import Derived.Test.YtgnmolleaengaaaGreatS7
set_option linter.unusedVariables false
set_option linter.unusedSimpArgs false
set_option linter.unnecessarySimpa false
namespace Go.Proofs.YtgnmolleaengaaaGreat
open Go

/-- distinct keys in range -/
structure Kd (L : List En) : Prop where
  nd : (L.map En.key).Nodup
  ok : ∀ x ∈ L, OkJ x.j
theorem nodup_le : ∀ (n : Nat) (l : List Nat), l.Nodup → (∀ x ∈ l, x < n) → l.length ≤ n
  | 0, l, _, h => by
    match l, h with
    | [], _ => simp
    | x :: _, h => exact absurd (h x (by simp)) (by omega)
  | n + 1, l, hn, h => by
    have h1 : (l.erase n).Nodup := hn.erase n
    have h2 := nodup_le n (l.erase n) h1 fun x hx => by
      have := h x (List.mem_of_mem_erase hx)
      have hne : x ≠ n := fun e => by
        subst e
        exact absurd hx (by rw [hn.mem_erase_iff]; simp)
      omega
    rw [List.length_erase] at h2
    split at h2 <;> omega
theorem Kd.len {L : List En} (h : Kd L) : L.length ≤ 9 := by
  have h1 : (L.map fun x => (x.j.vol * 3 + x.j.frag).toNat).Nodup := by
    have := h.nd
    rw [List.nodup_iff_pairwise_ne, List.pairwise_map] at this ⊢
    refine this.imp_of_mem fun {a b} ha hb hne e => hne ?_
    obtain ⟨⟨v1, v2⟩, ⟨f1, f2⟩, -⟩ := h.ok a ha
    obtain ⟨⟨v3, v4⟩, ⟨f3, f4⟩, -⟩ := h.ok b hb
    show (a.j.vol, a.j.frag) = (b.j.vol, b.j.frag)
    rw [show a.j.vol = b.j.vol by omega, show a.j.frag = b.j.frag by omega]
  have := nodup_le 9 _ h1 fun x hx => by
    obtain ⟨a, ha, rfl⟩ := List.mem_map.1 hx
    obtain ⟨⟨v1, v2⟩, ⟨f1, f2⟩, -⟩ := h.ok a ha
    show (a.j.vol * 3 + a.j.frag).toNat < 9
    omega
  simpa using this
theorem Kd.perm {L M : List En} (h : Kd L) (hp : M.Perm L) : Kd M := ⟨(hp.map En.key).nodup_iff.2 h.nd, fun x hx => h.ok x (hp.mem_iff.1 hx)⟩
theorem Kd.set {L : List En} (h : Kd L) {i : Nat} {x y : En} (hx : L[i]? = some x) (hy : y.key = x.key) (ho : OkJ y.j) : Kd (L.set i y) := by
  have e : (L.set i y).map En.key = L.map En.key := by
    rw [List.map_set, hy]
    apply List.ext_getElem?
    intro t
    rw [List.getElem?_set]
    split
    · rename_i ht
      subst ht
      have hl := (List.getElem?_eq_some_iff.1 hx).1
      simp [hl, (List.getElem?_eq_some_iff.1 hx).2]
    · rfl
  exact ⟨by rw [e]; exact h.nd, fun z hz => by
    rcases List.mem_or_eq_of_mem_set hz with hz | rfl
    · exact h.ok z hz
    · exact ho⟩
theorem Kd.snoc {L : List En} (h : Kd L) {y : En} (hy : idxF y.key L = -1) (ho : OkJ y.j) : Kd (L ++ [y]) := by
  have hno : ∀ x ∈ L, x.key ≠ y.key := by
    unfold idxF at hy
    split at hy
    · omega
    · rename_i hf
      intro x hx e
      have := List.findIdx?_eq_none_iff.1 hf x hx
      rw [keyB, decide_eq_false_iff_not] at this
      exact this e
  refine ⟨?_, fun z hz => ?_⟩
  · rw [List.map_append, List.nodup_append]
    refine ⟨h.nd, by simp, ?_⟩
    intro a ha b hb
    obtain ⟨x, hx, rfl⟩ := List.mem_map.1 ha
    have hb' : b = y.key := by simpa using hb
    rw [hb']
    exact hno x hx
  · rcases List.mem_append.1 hz with hz | hz
    · exact h.ok z hz
    · rw [List.mem_singleton.1 hz]; exact ho
theorem Kd.erase {L : List En} (h : Kd L) (i : Nat) : Kd (L.eraseIdx i) := ⟨((List.eraseIdx_sublist L i).map En.key).nodup h.nd, fun x hx => h.ok x (List.mem_of_mem_eraseIdx hx)⟩


/-- the keys' own uniqueness -/
theorem Kd.uniq {L : List En} (h : Kd L) {x y : En} (hx : x ∈ L) (hy : y ∈ L) (e : x.key = y.key) : x = y := by
  obtain ⟨i, hi, rfl⟩ := List.getElem_of_mem hx
  obtain ⟨j, hj, rfl⟩ := List.getElem_of_mem hy
  have hn := h.nd
  rw [List.nodup_iff_pairwise_ne, List.pairwise_map, List.pairwise_iff_getElem] at hn
  rcases Nat.lt_trichotomy i j with h1 | h1 | h1
  · exact absurd e (hn i j hi hj h1)
  · subst h1; rfl
  · exact absurd e.symm (hn j i hj hi h1)
theorem Kd.mem_erase {L : List En} (h : Kd L) {i : Nat} {x : En} (hx : L[i]? = some x) (y : En) : y ∈ L.eraseIdx i ↔ y ∈ L ∧ y.key ≠ x.key := by
  have hi : i < L.length := (List.getElem?_eq_some_iff.1 hx).1
  have hg : L[i] = x := (List.getElem?_eq_some_iff.1 hx).2
  rw [List.mem_eraseIdx_iff_getElem]
  constructor
  · rintro ⟨j, hj, hne, rfl⟩
    refine ⟨List.getElem_mem hj, fun e => hne ?_⟩
    have hn := h.nd
    rw [List.nodup_iff_pairwise_ne, List.pairwise_map, List.pairwise_iff_getElem] at hn
    rw [← hg] at e
    rcases Nat.lt_trichotomy i j with h1 | h1 | h1
    · exact absurd e.symm (hn i j hi hj h1)
    · exact h1.symm
    · exact absurd e (hn j i hj hi h1)
  · rintro ⟨hy, hne⟩
    obtain ⟨j, hj, rfl⟩ := List.getElem_of_mem hy
    exact ⟨j, hj, fun e => hne (by subst e; rw [hg]), rfl⟩
theorem mem_set_iff {L : List En} {i : Nat} {x y z : En} (h : Kd L) (hx : L[i]? = some x) : z ∈ L.set i y ↔ z = y ∨ z ∈ L ∧ z.key ≠ x.key := by
  have hi : i < L.length := (List.getElem?_eq_some_iff.1 hx).1
  have hg : L[i] = x := (List.getElem?_eq_some_iff.1 hx).2
  rw [List.mem_iff_getElem]
  constructor
  · rintro ⟨j, hj, rfl⟩
    rw [List.length_set] at hj
    rw [List.getElem_set]
    split
    · exact .inl rfl
    · rename_i hne
      refine .inr ⟨List.getElem_mem hj, fun e => hne ?_⟩
      have hn := h.nd
      rw [List.nodup_iff_pairwise_ne, List.pairwise_map, List.pairwise_iff_getElem] at hn
      rw [← hg] at e
      rcases Nat.lt_trichotomy i j with h1 | h1 | h1
      · exact absurd e.symm (hn i j hi hj h1)
      · exact h1
      · exact absurd e (hn j i hj hi h1)
  · rintro (rfl | ⟨hz, hne⟩)
    · exact ⟨i, by rw [List.length_set]; exact hi, by simp⟩
    · obtain ⟨j, hj, rfl⟩ := List.getElem_of_mem hz
      refine ⟨j, by rw [List.length_set]; exact hj, ?_⟩
      rw [List.getElem_set, if_neg]
      exact fun e => hne (by subst e; rw [hg])
theorem no_key {k : Ky} {L : List En} (h : idxF k L = -1) : ∀ x ∈ L, x.key ≠ k := by
  unfold idxF at h
  split at h
  · omega
  · rename_i hf
    intro x hx e
    have := List.findIdx?_eq_none_iff.1 hf x hx
    rw [keyB, decide_eq_false_iff_not] at this
    exact this e
theorem filter_set_len {L : List En} {i : Nat} {x y : En} (hx : L[i]? = some x) (hr : y.run = x.run) : ((L.set i y).filter En.run).length = (L.filter En.run).length := by
  induction L generalizing i with
  | nil => simp at hx
  | cons z L ih =>
    cases i with
    | zero =>
      simp at hx
      subst hx
      rw [List.set_cons_zero, List.filter_cons, List.filter_cons, hr]
      split <;> simp
    | succ i =>
      rw [List.set_cons_succ, List.filter_cons, List.filter_cons]
      have := ih (i := i) (by simpa using hx)
      split <;> simp [this]

/-- the state of the law: the sealed keys, the running entries, the order -/
structure In2 (n : Nat) (L : List En) (Sd : List Ky) : Prop where
  kd : Kd L
  srt : L.Pairwise (fun x y => ltE y x = false)
  hr : ∀ x ∈ L, x.held = true → x.run = true
  rn : (L.filter En.run).length ≤ n
  sd : ∀ k, k ∈ Sd ↔ ∃ x ∈ L, x.held = true ∧ x.key = k
theorem In2.nil (n : Nat) : In2 n [] [] := ⟨⟨List.nodup_nil, by simp⟩, List.Pairwise.nil, by simp, by simp, by simp⟩
theorem In2.remove_no {n : Nat} {L : List En} {Sd : List Ky} (h : In2 n L Sd) {k : Ky} (hk : idxF k L = -1) : In2 n L (Sd.filter fun q => decide (q ≠ k)) := by
  refine ⟨h.kd, h.srt, h.hr, h.rn, fun q => ?_⟩
  rw [List.mem_filter, decide_eq_true_eq, h.sd]
  constructor
  · exact fun h => h.1
  · rintro ⟨x, hx, hh, rfl⟩
    exact ⟨⟨x, hx, hh, rfl⟩, no_key hk x hx⟩
theorem In2.remove {n : Nat} {L : List En} {Sd : List Ky} (h : In2 n L Sd) {k : Ky} {i : Nat} {x : En} (hx : L[i]? = some x) (hk : x.key = k) : In2 n (L.eraseIdx i) (Sd.filter fun q => decide (q ≠ k)) := by
  have hs := List.eraseIdx_sublist L i
  refine ⟨h.kd.erase i, h.srt.sublist hs, fun y hy => h.hr y (List.mem_of_mem_eraseIdx hy), Nat.le_trans (hs.filter _).length_le h.rn, fun q => ?_⟩
  rw [List.mem_filter, decide_eq_true_eq, h.sd]
  constructor
  · rintro ⟨⟨y, hy, hh, rfl⟩, hne⟩
    exact ⟨y, (h.kd.mem_erase hx y).2 ⟨hy, by rw [hk]; exact hne⟩, hh, rfl⟩
  · rintro ⟨y, hy, hh, rfl⟩
    obtain ⟨h1, h2⟩ := (h.kd.mem_erase hx y).1 hy
    exact ⟨⟨y, h1, hh, rfl⟩, by rw [← hk]; exact h2⟩
theorem srt_of_jobs {L M : List En} (e : M.map (·.j) = L.map (·.j)) (h : L.Pairwise (fun x y => ltE y x = false)) : M.Pairwise (fun x y => ltE y x = false) := by
  have h1 : (L.map (·.j)).Pairwise (fun a b => decide (ordJ b a < 0) = false) := by
    rw [List.pairwise_map]
    exact h
  rw [← e, List.pairwise_map] at h1
  exact h1
theorem map_set_j {L : List En} {i : Nat} {x y : En} (hx : L[i]? = some x) (hy : y.j = x.j) : (L.set i y).map (·.j) = L.map (·.j) := by
  rw [List.map_set, hy]
  apply List.ext_getElem?
  intro t
  rw [List.getElem?_set]
  split
  · rename_i ht
    subst ht
    have hl := (List.getElem?_eq_some_iff.1 hx).1
    simp [hl, (List.getElem?_eq_some_iff.1 hx).2]
  · rfl
/-- a running entry is sealed -/
theorem In2.hold {n : Nat} {L : List En} {Sd Sd' : List Ky} (h : In2 n L Sd) {i : Nat} {x : En} (hx : L[i]? = some x) (hr : x.run = true) (hS : ∀ q, q ∈ Sd' ↔ q ∈ Sd ∨ q = x.key) : In2 n (L.set i { x with held := true }) Sd' := by
  have hm := List.mem_of_getElem? hx
  refine ⟨h.kd.set hx rfl (h.kd.ok x hm), srt_of_jobs (map_set_j hx rfl) h.srt, fun y hy hh => ?_, by rw [filter_set_len (y := { x with held := true }) hx rfl]; exact h.rn, fun q => ?_⟩
  · rcases List.mem_or_eq_of_mem_set hy with hy | rfl
    · exact h.hr y hy hh
    · exact hr
  · rw [hS, h.sd]
    constructor
    · rintro (⟨y, hy, hh, rfl⟩ | rfl)
      · by_cases e : y.key = x.key
        · exact ⟨_, (mem_set_iff h.kd hx).2 (.inl rfl), rfl, e.symm⟩
        · exact ⟨y, (mem_set_iff h.kd hx).2 (.inr ⟨hy, e⟩), hh, rfl⟩
      · exact ⟨_, (mem_set_iff h.kd hx).2 (.inl rfl), rfl, rfl⟩
    · rintro ⟨y, hy, hh, rfl⟩
      rcases (mem_set_iff h.kd hx).1 hy with rfl | ⟨hy, hne⟩
      · exact .inr rfl
      · exact .inl ⟨y, hy, hh, rfl⟩
theorem In2.put_old {n : Nat} {L L' : List En} {Sd : List Ky} (h : In2 n L Sd) {i : Nat} {x y : En} (hx : L[i]? = some x) (hy : y.key = x.key) (ho : OkJ y.j) (hr : y.run = x.run) (hh : y.held = x.held) (hp : L'.Perm (L.set i y)) (hs : L'.Pairwise (fun x y => ltE y x = false)) : In2 n L' Sd := by
  have hm := List.mem_of_getElem? hx
  refine ⟨(h.kd.set hx hy ho).perm hp, hs, fun z hz hzh => ?_, by rw [(hp.filter _).length_eq, filter_set_len hx hr]; exact h.rn, fun q => ?_⟩
  · rcases List.mem_or_eq_of_mem_set (hp.mem_iff.1 hz) with hz | rfl
    · exact h.hr z hz hzh
    · rw [hr]; exact h.hr x hm (by rw [← hh]; exact hzh)
  · rw [h.sd]
    constructor
    · rintro ⟨z, hz, hzh, rfl⟩
      by_cases e : z.key = x.key
      · have := h.kd.uniq hz hm e
        subst this
        exact ⟨y, hp.mem_iff.2 ((mem_set_iff h.kd hx).2 (.inl rfl)), by rw [hh]; exact hzh, hy⟩
      · exact ⟨z, hp.mem_iff.2 ((mem_set_iff h.kd hx).2 (.inr ⟨hz, e⟩)), hzh, rfl⟩
    · rintro ⟨z, hz, hzh, rfl⟩
      rcases (mem_set_iff h.kd hx).1 (hp.mem_iff.1 hz) with rfl | ⟨hz, hne⟩
      · exact ⟨x, hm, by rw [← hh]; exact hzh, hy.symm⟩
      · exact ⟨z, hz, hzh, rfl⟩
theorem In2.put_new {n : Nat} {L L' : List En} {Sd : List Ky} (h : In2 n L Sd) {y : En} (hy : idxF y.key L = -1) (ho : OkJ y.j) (hr : y.run = false) (hh : y.held = false) (hp : L'.Perm (L ++ [y])) (hs : L'.Pairwise (fun x y => ltE y x = false)) : In2 n L' Sd := by
  refine ⟨(h.kd.snoc hy ho).perm hp, hs, fun z hz hzh => ?_, by rw [(hp.filter _).length_eq, List.filter_append]; simpa [hr] using h.rn, fun q => ?_⟩
  · rcases List.mem_append.1 (hp.mem_iff.1 hz) with hz | hz
    · exact h.hr z hz hzh
    · rw [List.mem_singleton.1 hz, hh] at hzh; cases hzh
  · rw [h.sd]
    constructor
    · rintro ⟨z, hz, hzh, rfl⟩
      exact ⟨z, hp.mem_iff.2 (List.mem_append_left _ hz), hzh, rfl⟩
    · rintro ⟨z, hz, hzh, rfl⟩
      rcases List.mem_append.1 (hp.mem_iff.1 hz) with hz | hz
      · exact ⟨z, hz, hzh, rfl⟩
      · rw [List.mem_singleton.1 hz, hh] at hzh; cases hzh
end Go.Proofs.YtgnmolleaengaaaGreat
