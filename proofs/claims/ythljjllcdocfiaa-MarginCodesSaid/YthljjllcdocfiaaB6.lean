/- The order of sets is total; sort.Slice by it. -/
import Derived.Test.YthljjllcdocfiaaB5
set_option linter.unusedVariables false
set_option linter.unusedSimpArgs false
set_option linter.unnecessarySimpa false
namespace Go.Proofs.Ythljjllcdocfiaa
open Go Go.RowKit Go.MapKept

theorem lex_irrefl : ∀ a, lexB a a = false
  | [] => rfl
  | x :: a => by unfold lexB; simp [lex_irrefl a]
theorem lex_trans : ∀ a b c, lexB a b = true → lexB b c = true → lexB a c = true
  | [], _, _, h, _ => by simp [lexB] at h
  | _ :: _, [], _, h, _ => by simp [lexB] at h
  | _ :: _, _ :: _, [], _, h => by simp [lexB] at h
  | x :: a, y :: b, z :: c, h1, h2 => by
    unfold lexB at *
    by_cases e1 : x = y
    · subst e1
      rw [if_pos rfl] at h1
      by_cases e2 : x = z
      · subst e2
        rw [if_pos rfl] at h2 ⊢
        exact lex_trans a b c h1 h2
      · rw [if_neg e2] at h2 ⊢
        exact h2
    · rw [if_neg e1] at h1
      simp at h1
      by_cases e2 : y = z
      · subst e2
        rw [if_neg e1]
        simpa using h1
      · rw [if_neg e2] at h2
        simp at h2
        rw [if_neg (by omega)]
        simp
        omega
theorem lex_total : ∀ a b, a.length = b.length → lexB a b = false → lexB b a = false → a = b
  | [], [], _, _, _ => rfl
  | [], _ :: _, h, _, _ => by simp at h
  | _ :: _, [], h, _, _ => by simp at h
  | x :: a, y :: b, h, h1, h2 => by
    unfold lexB at h1 h2
    by_cases e : x = y
    · subst e
      rw [if_pos rfl] at h1 h2
      rw [lex_total a b (by simpa using h) h1 h2]
    · rw [if_neg e] at h1
      rw [if_neg (fun q => e q.symm)] at h2
      simp at h1 h2
      omega
theorem less_irrefl (a : List Int) : lessL a a = false := by unfold lessL; rw [if_pos rfl]; exact lex_irrefl a
theorem less_trans {a b c : List Int} (h1 : lessL a b = true) (h2 : lessL b c = true) : lessL a c = true := by
  unfold lessL at *
  split at h1
  · rename_i e1
    split at h2
    · rename_i e2
      rw [if_pos (e1.trans e2)]
      exact lex_trans a b c h1 h2
    · rw [if_neg (by omega)]
      rw [e1]; exact h2
  · simp at h1
    split at h2
    · rename_i e2
      rw [if_neg (by omega)]
      simp; omega
    · simp at h2
      rw [if_neg (by omega)]
      simp; omega
theorem less_total {a b : List Int} (h1 : lessL a b = false) (h2 : lessL b a = false) : a = b := by
  unfold lessL at *
  by_cases e : a.length = b.length
  · rw [if_pos e] at h1
    rw [if_pos e.symm] at h2
    exact lex_total a b e h1 h2
  · rw [if_neg e] at h1
    rw [if_neg (fun q => e q.symm)] at h2
    simp at h1 h2
    omega
theorem less_ntrans {a b c : List Int} (h1 : lessL a b = false) (h2 : lessL b c = false) : lessL a c = false := by
  cases h3 : lessL a c with
  | false => rfl
  | true =>
    cases h4 : lessL b a with
    | true => rw [less_trans h4 h3] at h2; cases h2
    | false => rw [less_total h1 h4, h2] at h3; cases h3

/-- a row of the slice to be sorted: its header and its numbers -/
structure SetAt (w : World) (g : Nat) where
  h : Hd
  r : List Int
  rd : Rd eI w (hv h) r
  ap : r ≠ [] → ∀ b, (hv h).ownBlock = some b → b ≠ g
instance (w : World) (g : Nat) : Inhabited (SetAt w g) := ⟨⟨(none, 0, 0), [], Rd.nil w none 0 (by omega), fun h => absurd rfl h⟩⟩
theorem sets_zip {w : World} {g : Nat} : ∀ (hs : List Hd) (L : List (List Int)), hs.length = L.length → (∀ (i : Nat) (x : Hd) (r : List Int), hs[i]? = some x → L[i]? = some r → Rd eI w (hv x) r ∧ (r ≠ [] → ∀ b, (hv x).ownBlock = some b → b ≠ g)) →
    ∃ d : List (SetAt w g), d.map (fun x => x.h) = hs ∧ d.map (fun x => x.r) = L
  | [], [], _, _ => ⟨[], rfl, rfl⟩
  | [], _ :: _, h, _ => by simp at h
  | _ :: _, [], h, _ => by simp at h
  | x :: hs, r :: L, h, hr => by
    obtain ⟨d, h1, h2⟩ := sets_zip hs L (by simpa using h) (fun i y q hy hq => hr (i + 1) y q (by simpa using hy) (by simpa using hq))
    exact ⟨⟨x, r, (hr 0 x r rfl rfl).1, (hr 0 x r rfl rfl).2⟩ :: d, by rw [List.map_cons, h1], by rw [List.map_cons, h2]⟩
theorem perm_of {α : Type} [Inhabited α] {d d' : Array α} (h : Go.Sort.PermIn 0 d.size d d') : d'.toList.Perm d.toList := by
  obtain ⟨h1, _, h3⟩ := h
  have e : ∀ a : Array α, a.extract 0 a.size = a := fun a => by simp
  rw [e] at h3
  rw [← h1, e] at h3
  exact h3
theorem pairs_of {α : Type} [Inhabited α] {lt : α → α → Bool} {d : Array α} {n : Nat} (hn : n = d.size) (h : Go.Sort.SortedIn lt 0 n d) : d.toList.Pairwise (fun x y => lt y x = false) := by
  subst hn
  rw [List.pairwise_iff_getElem]
  intro i j hi hj hij
  have := h i j (Nat.zero_le _) hij (by simpa using hj)
  simpa [hi, hj, getElem!_pos, show i < d.size by simpa using hi, show j < d.size by simpa using hj] using this
end Go.Proofs.Ythljjllcdocfiaa
