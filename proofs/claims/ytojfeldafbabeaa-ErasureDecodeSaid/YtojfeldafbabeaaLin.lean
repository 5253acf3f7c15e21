/- Plain laws of rows over the field: what Combine computes. No program in sight. -/
import Derived.Test.YtojfeldafbabeaaGF
set_option linter.unusedVariables false
set_option linter.unusedSimpArgs false
set_option linter.unnecessarySimpa false
namespace GF

def sumTo (c : List Nat) (rows : List (List Nat)) : Nat → Nat → Nat
  | 0, _ => 0
  | k + 1, i => sumTo c rows k i ^^^ mul (c.getD k 0) ((rows.getD k []).getD i 0)

def comb (c : List Nat) (rows : List (List Nat)) : List Nat := (List.range (rows.getD 0 []).length).map (sumTo c rows rows.length)

theorem getD_lt {l : List Nat} (h : ∀ x ∈ l, x < 256) (i : Nat) : l.getD i 0 < 256 := by
  by_cases hi : i < l.length
  · simp [hi]; exact h _ (List.getElem_mem _)
  · simp [List.getElem?_eq_none (Nat.le_of_not_lt hi)]

theorem sumTo_lt {c : List Nat} {rows : List (List Nat)} (hc : ∀ x ∈ c, x < 256) : ∀ k i, sumTo c rows k i < 256
  | 0, _ => by show 0 < 256; decide
  | k + 1, i => xor_lt (sumTo_lt hc k i) (mul_lt (getD_lt hc k))

/-- one row added, up to column k -/
def upTo (f : Nat → Nat) (c : Nat) (row : List Nat) (k : Nat) (i : Nat) : Nat := if i < k then f i ^^^ mul c (row.getD i 0) else f i
theorem upTo_zero (f : Nat → Nat) (c : Nat) (row : List Nat) (i : Nat) : upTo f c row 0 i = f i := by simp [upTo]
theorem upTo_self (f : Nat → Nat) (c : Nat) (row : List Nat) (k : Nat) : upTo f c row k k = f k := by simp [upTo]
theorem upTo_step (f : Nat → Nat) (c : Nat) (row : List Nat) (k i : Nat) : upTo f c row (k + 1) i = if i = k then f k ^^^ mul c (row.getD k 0) else upTo f c row k i := by
  unfold upTo
  by_cases h : i = k
  · subst h; simp
  · by_cases h2 : i < k
    · rw [if_pos (by omega), if_neg h, if_pos h2]
    · rw [if_neg (by omega), if_neg h, if_neg h2]
theorem upTo_all (c : List Nat) (rows : List (List Nat)) (k n i : Nat) (hi : i < n) : upTo (sumTo c rows k) (c.getD k 0) (rows.getD k []) n i = sumTo c rows (k + 1) i := by
  simp [upTo, hi, sumTo]
theorem upTo_lt {f : Nat → Nat} {c : Nat} {row : List Nat} (hf : ∀ i, f i < 256) (hc : c < 256) (k i : Nat) : upTo f c row k i < 256 := by
  unfold upTo; split
  · exact xor_lt (hf i) (mul_lt hc)
  · exact hf i
theorem comb_length (c : List Nat) (rows : List (List Nat)) : (comb c rows).length = (rows.getD 0 []).length := by simp [comb]
theorem comb_getD (c : List Nat) (rows : List (List Nat)) (i : Nat) (hi : i < (rows.getD 0 []).length) : (comb c rows).getD i 0 = sumTo c rows rows.length i := by
  unfold comb
  rw [List.getD_eq_getElem?_getD, List.getElem?_map, List.getElem?_range hi]
  rfl
theorem comb_lt {c : List Nat} (hc : ∀ x ∈ c, x < 256) (rows : List (List Nat)) : ∀ x ∈ comb c rows, x < 256 := by
  intro x hx
  unfold comb at hx
  obtain ⟨i, _, rfl⟩ := List.mem_map.1 hx
  exact sumTo_lt hc _ i

theorem sumTo_lin {s c d : List Nat} {x : Nat} (rows : List (List Nat)) (hx : x < 256) (hc : ∀ v ∈ c, v < 256) (hd : ∀ v ∈ d, v < 256) (hr : ∀ k i, ((rows.getD k []).getD i 0) < 256) :
    ∀ k i, (∀ j, j < k → s.getD j 0 = c.getD j 0 ^^^ mul x (d.getD j 0)) → sumTo s rows k i = sumTo c rows k i ^^^ mul x (sumTo d rows k i)
  | 0, i, _ => by show 0 = 0 ^^^ mul x 0; rw [mul_zero]; rfl
  | k + 1, i, h => by
    have ih := sumTo_lin rows hx hc hd hr k i fun j hj => h j (by omega)
    simp only [sumTo]
    rw [ih, h k (by omega), add_mul (getD_lt hc k) (mul_lt hx), mul_add, mul_assoc hx (getD_lt hd k) (hr k i)]
    generalize sumTo c rows k i = A, mul x (sumTo d rows k i) = B, mul (c.getD k 0) ((rows.getD k []).getD i 0) = C, mul x (mul (d.getD k 0) ((rows.getD k []).getD i 0)) = D
    rw [Nat.xor_assoc, Nat.xor_assoc, xor_left_comm B C D]

/-- where Combine does not refuse -/
def Fit (c : List Nat) (rows : List (List Nat)) : Prop := 0 < c.length ∧ c.length = rows.length ∧ ∀ i, i < rows.length → (rows.getD i []).length = (rows.getD 0 []).length

theorem not_fit {c : List Nat} {rows : List (List Nat)} (h : ¬ Fit c rows) : (c.length = 0 ∨ c.length ≠ rows.length) ∨
    (0 < c.length ∧ c.length = rows.length ∧ ∃ p, p < rows.length ∧ 0 < p ∧ (∀ i, i < p → (rows.getD i []).length = (rows.getD 0 []).length) ∧ (rows.getD p []).length ≠ (rows.getD 0 []).length) := by
  by_cases h1 : c.length = 0 ∨ c.length ≠ rows.length
  · exact .inl h1
  · right
    have h2 : 0 < c.length := by omega
    have h3 : c.length = rows.length := by omega
    refine ⟨h2, h3, ?_⟩
    have key : ∀ n, n ≤ rows.length → (∀ i, i < n → (rows.getD i []).length = (rows.getD 0 []).length) ∨
        ∃ p, p < rows.length ∧ 0 < p ∧ (∀ i, i < p → (rows.getD i []).length = (rows.getD 0 []).length) ∧ (rows.getD p []).length ≠ (rows.getD 0 []).length := by
      intro n
      induction n with
      | zero => exact fun _ => .inl fun i hi => by omega
      | succ n ih =>
        intro hn
        rcases ih (by omega) with ih | ih
        · by_cases e : (rows.getD n []).length = (rows.getD 0 []).length
          · refine .inl fun i hi => ?_
            by_cases hin : i = n
            · rw [hin]; exact e
            · exact ih i (by omega)
          · refine .inr ⟨n, by omega, ?_, ih, e⟩
            rcases Nat.eq_zero_or_pos n with h0 | h0
            · rw [h0] at e; exact absurd rfl e
            · exact h0
        · exact .inr ih
    rcases key rows.length (Nat.le_refl _) with k | k
    · exact absurd ⟨h2, h3, k⟩ h
    · exact k
end GF
