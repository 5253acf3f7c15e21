/- Plain law of MarginMinimal: each cut is fatal and minimal; every fatal set contains a cut. -/
import Derived.Test.YthljjllcdocfiaaF5
set_option linter.unusedVariables false
set_option linter.unusedSimpArgs false
set_option linter.unnecessarySimpa false
namespace Go.Proofs.Ythljjllcdocfiaa
open Go

/-- what is listed among the first masks -/
theorem mem_cutsR {k st : Int} {l : List Cp} {d : List Int} (hd : d.Nodup) (hl : d.length ≤ 60) {S : List Int} {n : Nat} (hn : n ≤ 2 ^ d.length) : S ∈ cutsR k st l d n ↔ ∃ m, m < n ∧ chL d m = S ∧ cutB k st l S = true := by
  rw [(cutsR_perm hd hl n hn).mem_iff]
  unfold outK
  rw [List.mem_map]
  constructor
  · rintro ⟨m, hm, rfl⟩
    rw [List.mem_filter, List.mem_range] at hm
    exact ⟨m, hm.1, rfl, by rw [← least_cut hd hl (by omega)]; exact hm.2⟩
  · rintro ⟨m, hm, rfl, hc⟩
    exact ⟨m, List.mem_filter.2 ⟨List.mem_range.2 hm, by rw [least_cut hd hl (by omega)]; exact hc⟩, rfl⟩
theorem drv_nodup (l : List Cp) : (drvL l).Nodup := (drv_sorted l).imp (fun h => by omega)
theorem mem_drv {l : List Cp} {x : Int} : x ∈ drvL l ↔ ∃ c ∈ l, cnt c = true ∧ c.2.1 = x := by
  have key : ∀ (l : List Cp) (o : List Int), x ∈ l.foldl dstStep o ↔ x ∈ o ∨ ∃ c ∈ l, cnt c = true ∧ c.2.1 = x := by
    intro l
    induction l with
    | nil => intro o; simp
    | cons c l ih =>
      intro o
      rw [List.foldl_cons, ih]
      unfold dstStep
      by_cases h1 : cnt c = true
      · by_cases h2 : hasI o c.2.1 = true
        · rw [if_neg (by simp [h2])]
          constructor
          · rintro (h | ⟨e, he, h⟩)
            · exact .inl h
            · exact .inr ⟨e, List.mem_cons_of_mem _ he, h⟩
          · rintro (h | ⟨e, he, h⟩)
            · exact .inl h
            · rcases List.mem_cons.1 he with rfl | he
              · exact .inl (by rw [← h.2]; exact hasI_iff.1 h2)
              · exact .inr ⟨e, he, h⟩
        · rw [if_pos (by simp [h1, h2])]
          constructor
          · rintro (h | ⟨e, he, h⟩)
            · rcases List.mem_append.1 h with h | h
              · exact .inl h
              · exact .inr ⟨c, List.mem_cons_self, h1, (List.mem_singleton.1 h).symm⟩
            · exact .inr ⟨e, List.mem_cons_of_mem _ he, h⟩
          · rintro (h | ⟨e, he, h⟩)
            · exact .inl (List.mem_append.2 (.inl h))
            · rcases List.mem_cons.1 he with rfl | he
              · exact .inl (List.mem_append.2 (.inr (by rw [h.2]; exact List.mem_singleton_self _)))
              · exact .inr ⟨e, he, h⟩
      · rw [if_neg (by simp [h1])]
        constructor
        · rintro (h | ⟨e, he, h⟩)
          · exact .inl h
          · exact .inr ⟨e, List.mem_cons_of_mem _ he, h⟩
        · rintro (h | ⟨e, he, h⟩)
          · exact .inl h
          · rcases List.mem_cons.1 he with rfl | he
            · exact absurd h.1 h1
            · exact .inr ⟨e, he, h⟩
  have hp := (drv_perm l [] [] (List.Perm.refl _)).mem_iff (a := x)
  have := key l []
  rw [show drvL l = l.foldl drvStep [] from rfl, ← hp, this]
  simp
/-- a set of the drives as a mask -/
def maskOf (d : List Int) (p : Int → Bool) : Nat → Nat
  | 0 => 0
  | n + 1 => maskOf d p n + if p (d.getD n 0) then 2 ^ n else 0
theorem mask_lt (d : List Int) (p : Int → Bool) : ∀ n, maskOf d p n < 2 ^ n
  | 0 => by simp [maskOf]
  | n + 1 => by
    have h := mask_lt d p n
    unfold maskOf
    rw [Nat.pow_succ]
    split <;> omega
theorem mask_bit (d : List Int) (p : Int → Bool) : ∀ (n i : Nat), i < n → (maskOf d p n).testBit i = p (d.getD i 0)
  | 0, i, h => by omega
  | n + 1, i, h => by
    have hlt := mask_lt d p n
    unfold maskOf
    by_cases e : i = n
    · subst e
      cases hp : p (d.getD i 0) with
      | true => simp; rw [Nat.add_comm, Nat.testBit_two_pow_add_eq, Nat.testBit_lt_two_pow hlt]; rfl
      | false => simp; exact Nat.testBit_lt_two_pow hlt
    · have ih := mask_bit d p n i (by omega)
      split
      · rw [Nat.add_comm, Nat.testBit_two_pow_add_gt (by omega)]
        exact ih
      · exact ih
theorem mem_maskOf {d : List Int} {p : Int → Bool} {x : Int} : x ∈ chL d (maskOf d p d.length) ↔ x ∈ d ∧ p x = true := by
  rw [mem_ch]
  constructor
  · rintro ⟨i, hi, hb, rfl⟩
    rw [mask_bit d p _ i hi] at hb
    exact ⟨by rw [show d.getD i 0 = d[i] by simp [hi]]; exact List.getElem_mem _, hb⟩
  · rintro ⟨hx, hp⟩
    obtain ⟨i, hi, rfl⟩ := List.getElem_of_mem hx
    have e : d.getD i 0 = d[i] := by simp [hi]
    exact ⟨i, hi, by rw [mask_bit d p _ i hi, e]; exact hp, e⟩
/-- the survival of a loss depends on the drives that are there alone -/
theorem surv_drives {k st : Int} {l : List Cp} {a b : List Int} (h : ∀ x ∈ drvL l, (x ∈ a ↔ x ∈ b)) : survF k st l a = survF k st l b := by
  have hg : ∀ s f, f < 8 → good (withoutL l a) s f = good (withoutL l b) s f := by
    intro s f hf
    rw [Bool.eq_iff_iff, good_iff, good_iff]
    constructor
    · rintro ⟨c, hc, h1, h2⟩
      rw [mem_without] at hc
      refine ⟨c, mem_without.2 ⟨hc.1, fun q => hc.2 ((h _ (mem_drv.2 ⟨c, hc.1, by simp [cnt, h1]; omega, rfl⟩)).2 q)⟩, h1, h2⟩
    · rintro ⟨c, hc, h1, h2⟩
      rw [mem_without] at hc
      refine ⟨c, mem_without.2 ⟨hc.1, fun q => hc.2 ((h _ (mem_drv.2 ⟨c, hc.1, by simp [cnt, h1]; omega, rfl⟩)).1 q)⟩, h1, h2⟩
  have hi : ∀ s : Int, intactL (withoutL l a) s = intactL (withoutL l b) s := by
    intro s
    unfold intactL
    split
    · congr 1
      refine List.filter_congr fun f hf => ?_
      exact hg _ _ (by simpa using hf)
    · rfl
  have hl : ∀ n, leastN (withoutL l a) n = leastN (withoutL l b) n := by
    intro n
    induction n with
    | zero => rfl
    | succ n ih =>
      show min (leastN _ n) (intactL _ n).length = min (leastN _ n) (intactL _ n).length
      rw [ih, hi]
  unfold survF margF
  rw [hl]
end Go.Proofs.Ythljjllcdocfiaa
