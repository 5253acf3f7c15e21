/- Plain laws of trees given by parents: what lies above a node; sorted lists of the elements of a set. No program in sight. -/
import Derived.Lib.Hide
set_option linter.unusedVariables false
set_option linter.unusedSimpArgs false
set_option linter.unnecessarySimpa false
namespace Tree

/-- a list of parents is a tree -/
def Ok (l : List Int) : Prop := 1 ≤ l.length ∧ l.length ≤ 64 ∧ l.getD 0 0 = -1 ∧ ∀ i, 1 ≤ i → i < l.length → 0 ≤ l.getD i 0 ∧ l.getD i 0 < i
def okB (l : List Int) : Bool := decide (1 ≤ l.length) && decide (l.length ≤ 64) && (l.getD 0 0 == -1) && (List.range l.length).all fun i => i == 0 || (decide (0 ≤ l.getD i 0) && decide (l.getD i 0 < i))
theorem okB_iff (l : List Int) : okB l = true ↔ Ok l := by
  unfold okB Ok
  simp only [Bool.and_eq_true, Bool.or_eq_true, decide_eq_true_eq, List.all_eq_true, List.mem_range, beq_iff_eq]
  constructor
  · rintro ⟨⟨⟨a, b⟩, c⟩, d⟩
    refine ⟨a, b, c, fun i h1 h2 => ?_⟩
    rcases d i h2 with h | h
    · omega
    · exact h
  · rintro ⟨a, b, c, d⟩
    refine ⟨⟨⟨a, b⟩, c⟩, fun i hi => ?_⟩
    by_cases h : i = 0
    · exact .inl h
    · exact .inr (d i (by omega) hi)

/-- the parent of node x, as a number -/
def up (l : List Int) (x : Nat) : Nat := (l.getD x 0).toNat
/-- x is i, or below it -/
def bel (l : List Int) (x i : Nat) : Bool := if h : x ≤ i then x == i else bel l (min (up l x) (x - 1)) i
termination_by x
decreasing_by omega

variable {l : List Int}
theorem up_lt (h : Ok l) {x : Nat} (h1 : 1 ≤ x) (hx : x < l.length) : up l x < x ∧ (l.getD x 0) = (up l x : Int) := by
  have := h.2.2.2 x h1 hx
  unfold up
  omega
theorem bel_le {x i : Nat} (h : x ≤ i) : bel l x i = (x == i) := by rw [bel, dif_pos h]
theorem bel_gt (h : Ok l) {x i : Nat} (hx : x < l.length) (hi : i < x) : bel l x i = bel l (up l x) i := by
  rw [bel, dif_neg (by omega)]
  have := (up_lt h (x := x) (by omega) hx).1
  rw [Nat.min_eq_left (by omega)]
theorem bel_self (l : List Int) (x : Nat) : bel l x x = true := by rw [bel_le (Nat.le_refl _)]; simp
theorem bel_lt {x i : Nat} (h : x < i) : bel l x i = false := by rw [bel_le (by omega)]; simp; omega
theorem bel_zero (h : Ok l) : ∀ x, x < l.length → bel l x 0 = true := by
  intro x
  induction x using Nat.strongRecOn with
  | ind x ih =>
    intro hx
    by_cases h0 : x = 0
    · subst h0; exact bel_self _ _
    · rw [bel_gt h hx (by omega)]
      have := (up_lt h (x := x) (by omega) hx).1
      exact ih _ this (by omega)
theorem bel_step (h : Ok l) {x : Nat} (h1 : 1 ≤ x) (hx : x < l.length) (i : Nat) : bel l x i = (x == i || bel l (up l x) i) := by
  have hu := (up_lt h h1 hx).1
  by_cases hi : i < x
  · rw [bel_gt h hx hi]
    have : (x == i) = false := by simp; omega
    rw [this]; rfl
  · rw [bel_le (by omega), bel_lt (x := up l x) (by omega), Bool.or_false]
theorem bel_root (i : Nat) : bel l 0 i = (0 == i) := bel_le (by omega)
theorem bel_trans (h : Ok l) {i j : Nat} : ∀ x, x < l.length → bel l x i = true → bel l i j = true → bel l x j = true := by
  intro x
  induction x using Nat.strongRecOn with
  | ind x ih =>
    intro hx hi hj
    by_cases h0 : x = 0
    · subst h0
      rw [bel_root] at hi
      have : i = 0 := (show 0 = i by simpa using hi).symm
      subst this; exact hj
    · rw [bel_step h (by omega) hx] at hi ⊢
      have hu := (up_lt h (x := x) (by omega) hx).1
      simp only [Bool.or_eq_true, beq_iff_eq] at hi ⊢
      rcases hi with rfl | hi
      · rw [bel_step h (by omega) hx] at hj
        simpa using hj
      · exact .inr (ih _ hu (by omega) hi hj)
theorem bel_ge {x i : Nat} (h : bel l x i = true) : i ≤ x := by
  by_cases q : x < i
  · rw [bel_lt q] at h; cases h
  · omega
/-- two nodes above one are above one another -/
theorem bel_line (h : Ok l) {i j : Nat} : ∀ x, x < l.length → bel l x i = true → bel l x j = true → i ≤ j → bel l j i = true := by
  intro x
  induction x using Nat.strongRecOn with
  | ind x ih =>
    intro hx hi hj hij
    by_cases e : x = j
    · subst e; exact hi
    by_cases h0 : x = 0
    · subst h0
      rw [bel_root] at hj
      exact absurd (by simpa using hj) e
    · rw [bel_step h (by omega) hx] at hj hi
      have hu := (up_lt h (x := x) (by omega) hx).1
      have e1 : (x == j) = false := by simpa using e
      rw [e1, Bool.false_or] at hj
      have : j ≤ up l x := bel_ge hj
      have e2 : (x == i) = false := by simp; omega
      rw [e2, Bool.false_or] at hi
      exact ih _ hu (by omega) hi hj hij

/-- the links between two nodes, in order -/
def pathL (l : List Int) (a b : Nat) : List Nat := (List.range l.length).filter fun i => bel l a i != bel l b i
theorem mem_path {a b i : Nat} : i ∈ pathL l a b ↔ i < l.length ∧ bel l a i ≠ bel l b i := by
  unfold pathL
  rw [List.mem_filter, List.mem_range]
  simp
/-- the lowest node above two -/
def meetN (l : List Int) (a b : Nat) : Nat := ((List.range l.length).filter fun i => bel l a i && bel l b i).foldl max 0

/-- a sorted list of numbers without a repetition is the numbers of the set in order -/
theorem sorted_eq {α : Type} (f : α → Int) : ∀ (xs ys : List Int), xs.Pairwise (· < ·) → ys.Pairwise (· < ·) → (∀ x, x ∈ xs ↔ x ∈ ys) → xs = ys
  | [], [], _, _, _ => rfl
  | [], y :: ys, _, _, h => by have := (h y).2 (by simp); cases this
  | x :: xs, [], _, _, h => by have := (h x).1 (by simp); cases this
  | x :: xs, y :: ys, h1, h2, h => by
    rw [List.pairwise_cons] at h1 h2
    have e : x = y := by
      have a := (h x).1 (by simp)
      have b := (h y).2 (by simp)
      rcases List.mem_cons.1 a with a | a
      · exact a
      · rcases List.mem_cons.1 b with b | b
        · exact b.symm
        · have := h1.1 y b; have := h2.1 x a; omega
    subst e
    refine congrArg (x :: ·) (sorted_eq f xs ys h1.2 h2.2 fun z => ?_)
    constructor
    · intro hz
      have := (h z).1 (by simp [hz])
      rcases List.mem_cons.1 this with e | e
      · subst e; have := h1.1 z hz; omega
      · exact e
    · intro hz
      have := (h z).2 (by simp [hz])
      rcases List.mem_cons.1 this with e | e
      · subst e; have := h2.1 z hz; omega
      · exact e
theorem range_sorted (n : Nat) (p : Nat → Bool) : (((List.range n).filter p).map fun k : Nat => (k : Int)).Pairwise (· < ·) := by
  rw [List.pairwise_map]
  have : ((List.range n).filter p).Pairwise (· < ·) := List.Pairwise.filter _ List.pairwise_lt_range
  exact this.imp fun h => by omega
theorem merge_sorted {ss : List Int} (hn : ss.Nodup) : (ss.mergeSort fun x y => decide (x ≤ y)).Pairwise (· < ·) := by
  have h1 : (ss.mergeSort fun x y => decide (x ≤ y)).Pairwise fun x y => decide (x ≤ y) = true := List.pairwise_mergeSort (fun a b c h1 h2 => by simp at *; omega) (fun a b => by simp; omega) ss
  have h2 : (ss.mergeSort fun x y => decide (x ≤ y)).Nodup := (List.mergeSort_perm ss _).nodup_iff.2 hn
  exact (List.Pairwise.and h1 h2).imp fun ⟨a, b⟩ => by
    have : _ ≤ _ := of_decide_eq_true a
    omega
theorem merge_eq {ss : List Int} (hn : ss.Nodup) (n : Nat) (p : Nat → Bool) (h : ∀ x, x ∈ ss ↔ ∃ k : Nat, x = k ∧ k < n ∧ p k = true) :
    (ss.mergeSort fun x y => decide (x ≤ y)) = ((List.range n).filter p).map fun k : Nat => (k : Int) := by
  refine sorted_eq id _ _ (merge_sorted hn) (range_sorted n p) fun x => ?_
  rw [(List.mergeSort_perm ss _).mem_iff, h x]
  simp only [List.mem_map, List.mem_filter, List.mem_range]
  constructor
  · rintro ⟨k, rfl, h1, h2⟩; exact ⟨k, ⟨h1, h2⟩, rfl⟩
  · rintro ⟨k, ⟨h1, h2⟩, rfl⟩; exact ⟨k, rfl, h1, h2⟩
end Tree
