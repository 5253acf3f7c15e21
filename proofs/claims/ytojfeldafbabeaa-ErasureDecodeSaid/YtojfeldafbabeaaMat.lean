/- Linear algebra over the field of 256 elements: sums, matrices as functions, Gauss and Jordan's elimination and what it gives. No program in sight. -/
import Derived.Test.YtojfeldafbabeaaGF
set_option linter.unusedVariables false
set_option linter.unusedSimpArgs false
set_option linter.unnecessarySimpa false
namespace GF

structure F where
  v : Nat
  lt : v < 256
  deriving DecidableEq

namespace F
theorem ext {a b : F} (h : a.v = b.v) : a = b := by cases a; cases b; cases h; rfl
instance : Add F := ⟨fun a b => ⟨a.v ^^^ b.v, xor_lt a.lt b.lt⟩⟩
instance : Mul F := ⟨fun a b => ⟨GF.mul a.v b.v, mul_lt a.lt⟩⟩
instance : OfNat F 0 := ⟨⟨0, by decide⟩⟩
instance : OfNat F 1 := ⟨⟨1, by decide⟩⟩
instance : Inhabited F := ⟨0⟩
def inv (a : F) : F := ⟨GF.inv a.v, inv_lt a.v⟩
theorem v_add (a b : F) : (a + b).v = a.v ^^^ b.v := rfl
theorem v_mul (a b : F) : (a * b).v = GF.mul a.v b.v := rfl
theorem v_zero : (0 : F).v = 0 := rfl
theorem v_one : (1 : F).v = 1 := rfl
theorem add_comm (a b : F) : a + b = b + a := ext (Nat.xor_comm _ _)
theorem add_assoc (a b c : F) : a + b + c = a + (b + c) := ext (Nat.xor_assoc _ _ _)
theorem add_self (a : F) : a + a = 0 := ext (Nat.xor_self _)
theorem zero_add (a : F) : 0 + a = a := ext (Nat.zero_xor _)
theorem add_zero (a : F) : a + 0 = a := ext (Nat.xor_zero _)
theorem mul_comm (a b : F) : a * b = b * a := ext (GF.mul_comm a.lt b.lt)
theorem mul_assoc (a b c : F) : a * b * c = a * (b * c) := ext (GF.mul_assoc a.lt b.lt c.lt)
theorem mul_add (a b c : F) : a * (b + c) = a * b + a * c := ext GF.mul_add
theorem add_mul (a b c : F) : (a + b) * c = a * c + b * c := ext (GF.add_mul a.lt b.lt)
theorem mul_one (a : F) : a * 1 = a := ext (GF.mul_one a.v a.lt)
theorem one_mul (a : F) : 1 * a = a := ext (GF.one_mul a.lt)
theorem mul_zero (a : F) : a * 0 = 0 := ext (GF.mul_zero a.v)
theorem zero_mul (a : F) : 0 * a = 0 := ext (GF.zero_mul a.v)
theorem inv_mul {a : F} (h : a ≠ 0) : a.inv * a = 1 := ext (GF.mul_inv a.v a.lt fun e => h (ext e))
theorem mul_eq_zero {a b : F} (h : a * b = 0) (hb : b ≠ 0) : a = 0 :=
  ext (GF.mul_eq_zero a.lt b.lt (congrArg F.v h) fun e => hb (ext e))
theorem one_ne_zero : (1 : F) ≠ 0 := fun h => by have := congrArg F.v h; exact absurd this (by decide)
theorem inv_ne_zero {a : F} (h : a ≠ 0) : a.inv ≠ 0 := fun e => by
  have := inv_mul h
  rw [e, zero_mul] at this
  exact one_ne_zero this.symm
theorem eq_of_add_eq_zero {a b : F} (h : a + b = 0) : a = b := by
  have : a + b + b = b := by rw [h, zero_add]
  rw [add_assoc, add_self, add_zero] at this
  exact this
theorem add_left_comm (a b c : F) : a + (b + c) = b + (a + c) := by rw [← add_assoc, add_comm a b, add_assoc]
theorem mul_left_comm (a b c : F) : a * (b * c) = b * (a * c) := by rw [← mul_assoc, mul_comm a b, mul_assoc]
end F

/-- the sum of f i, i below n -/
def sm : Nat → (Nat → F) → F
  | 0, _ => 0
  | n + 1, f => sm n f + f n

theorem sm_congr {n : Nat} {f g : Nat → F} (h : ∀ i, i < n → f i = g i) : sm n f = sm n g := by
  induction n with
  | zero => rfl
  | succ n ih => simp only [sm]; rw [ih fun i hi => h i (by omega), h n (by omega)]
theorem sm_zero (n : Nat) : sm n (fun _ => 0) = 0 := by
  induction n with
  | zero => rfl
  | succ n ih => simp only [sm]; rw [ih, F.add_zero]
theorem sm_add (n : Nat) (f g : Nat → F) : sm n (fun i => f i + g i) = sm n f + sm n g := by
  induction n with
  | zero => rw [show sm 0 (fun i => f i + g i) = 0 from rfl, show sm 0 f = 0 from rfl, show sm 0 g = 0 from rfl, F.add_zero]
  | succ n ih => simp only [sm]; rw [ih, F.add_assoc, F.add_assoc, F.add_left_comm (sm n g)]
theorem sm_mul (n : Nat) (c : F) (f : Nat → F) : c * sm n f = sm n (fun i => c * f i) := by
  induction n with
  | zero => exact F.mul_zero c
  | succ n ih => simp only [sm]; rw [F.mul_add, ih]
theorem sm_mul_right (n : Nat) (c : F) (f : Nat → F) : sm n f * c = sm n (fun i => f i * c) := by
  rw [F.mul_comm, sm_mul]; exact sm_congr fun i _ => F.mul_comm _ _
theorem sm_comm (n m : Nat) (f : Nat → Nat → F) : sm n (fun i => sm m (fun j => f i j)) = sm m (fun j => sm n (fun i => f i j)) := by
  induction n with
  | zero => exact (sm_zero m).symm
  | succ n ih => simp only [sm]; rw [ih, ← sm_add]
theorem sm_single {n k : Nat} {f : Nat → F} (hk : k < n) (h : ∀ i, i < n → i ≠ k → f i = 0) : sm n f = f k := by
  induction n with
  | zero => omega
  | succ n ih =>
    simp only [sm]
    by_cases e : k = n
    · subst e
      rw [sm_congr (g := fun _ => 0) fun i hi => h i (by omega) (by omega), sm_zero, F.zero_add]
    · rw [ih (by omega) fun i hi hne => h i (by omega) hne, h n (by omega) (by omega), F.add_zero]

/-- the unit matrix -/
def dl (i j : Nat) : F := if i = j then 1 else 0
theorem dl_self (i : Nat) : dl i i = 1 := by simp [dl]
theorem dl_ne {i j : Nat} (h : i ≠ j) : dl i j = 0 := by simp [dl, h]
theorem sm_dl {n k : Nat} (hk : k < n) (f : Nat → F) : sm n (fun i => dl k i * f i) = f k := by
  rw [sm_single hk fun i _ hne => by rw [dl_ne (by omega), F.zero_mul], dl_self, F.one_mul]
theorem sm_dl' {n k : Nat} (hk : k < n) (f : Nat → F) : sm n (fun i => f i * dl i k) = f k := by
  rw [sm_single hk fun i _ hne => by rw [dl_ne hne, F.mul_zero], dl_self, F.mul_one]

/-- r is a combination of the n rows of t, of which m columns count -/
def Comb (n m : Nat) (t : Nat → Nat → F) (r : Nat → F) : Prop := ∃ c : Nat → F, ∀ j, j < m → r j = sm n (fun k => c k * t k j)
def Span (n m : Nat) (t t' : Nat → Nat → F) : Prop := ∀ i, i < n → Comb n m t (t' i)

theorem Comb.row {n m i : Nat} (t : Nat → Nat → F) (hi : i < n) : Comb n m t (t i) := ⟨dl i, fun j _ => (sm_dl hi fun k => t k j).symm⟩
theorem Comb.add {n m : Nat} {t : Nat → Nat → F} {r s : Nat → F} (h : Comb n m t r) (k : Comb n m t s) : Comb n m t (fun j => r j + s j) := by
  obtain ⟨c, hc⟩ := h
  obtain ⟨d, hd⟩ := k
  exact ⟨fun i => c i + d i, fun j hj => by show r j + s j = _; rw [hc j hj, hd j hj, ← sm_add]; exact sm_congr fun i _ => (F.add_mul _ _ _).symm⟩
theorem Comb.smul {n m : Nat} {t : Nat → Nat → F} {r : Nat → F} (x : F) (h : Comb n m t r) : Comb n m t (fun j => x * r j) := by
  obtain ⟨c, hc⟩ := h
  exact ⟨fun i => x * c i, fun j hj => by show x * r j = _; rw [hc j hj, sm_mul]; exact sm_congr fun i _ => (F.mul_assoc _ _ _).symm⟩
theorem Comb.congr {n m : Nat} {t : Nat → Nat → F} {r s : Nat → F} (h : Comb n m t r) (e : ∀ j, j < m → s j = r j) : Comb n m t s := by
  obtain ⟨c, hc⟩ := h
  exact ⟨c, fun j hj => by rw [e j hj, hc j hj]⟩
theorem Comb.trans {n m : Nat} {t t' : Nat → Nat → F} {r : Nat → F} (h : Comb n m t' r) (k : Span n m t t') : Comb n m t r := by
  obtain ⟨c, hc⟩ := h
  have : ∀ i, ∃ d : Nat → F, i < n → ∀ j, j < m → t' i j = sm n (fun k => d k * t k j) := fun i => by
    by_cases hi : i < n
    · obtain ⟨d, hd⟩ := k i hi; exact ⟨d, fun _ => hd⟩
    · exact ⟨fun _ => 0, fun h => absurd h hi⟩
  obtain ⟨d, hd⟩ := Classical.axiomOfChoice this
  refine ⟨fun k => sm n (fun i => c i * d i k), fun j hj => ?_⟩
  rw [hc j hj]
  rw [sm_congr (g := fun i => sm n (fun k => c i * (d i k * t k j))) fun i hi => by rw [hd i hi j hj, sm_mul], sm_comm]
  refine sm_congr fun k _ => ?_
  rw [sm_mul_right]
  exact sm_congr fun i _ => (F.mul_assoc _ _ _).symm
theorem Span.refl (n m : Nat) (t : Nat → Nat → F) : Span n m t t := fun _ hi => Comb.row t hi
theorem Span.trans {n m : Nat} {t t' t'' : Nat → Nat → F} (h : Span n m t t') (k : Span n m t' t'') : Span n m t t'' := fun i hi => (k i hi).trans h

/-- the rows p and k exchanged -/
def sw (p k i : Nat) : Nat := if i = k then p else if i = p then k else i
theorem sw_lt {n p k i : Nat} (hp : p < n) (hk : k < n) (hi : i < n) : sw p k i < n := by
  unfold sw
  split
  · exact hp
  · split
    · exact hk
    · exact hi
theorem sw_ne {p k i : Nat} (h : i ≠ p) : sw p k i ≠ k := by
  unfold sw
  split
  · rename_i e; intro e2; omega
  · rename_i e; exact e
theorem sw_sw (p k i : Nat) : sw p k (sw p k i) = i := by
  unfold sw
  by_cases h1 : i = k
  · subst h1
    by_cases h2 : p = i
    · subst h2; simp
    · simp [h2]
  · by_cases h2 : i = p
    · subst h2; simp [h1]
    · simp [h1, h2]

/-- one step of the elimination, the pivot of column k in row p -/
def gj (k p : Nat) (t : Nat → Nat → F) (i j : Nat) : F :=
  if i = k then (t p k).inv * t p j else t (sw p k i) j + t (sw p k i) k * ((t p k).inv * t p j)

theorem gj_span {n m k p : Nat} {t : Nat → Nat → F} (hk : k < n) (hp : p < n) : Span n m t (gj k p t) := by
  intro i hi
  by_cases e : i = k
  · subst e
    exact ((Comb.row t hp).smul (t p i).inv).congr fun j _ => by simp [gj]
  · exact ((Comb.row t (sw_lt hp hk hi)).add (((Comb.row t hp).smul (t p k).inv).smul (t (sw p k i) k))).congr fun j _ => by simp [gj, e]
theorem gj_back {n m k p : Nat} {t : Nat → Nat → F} (hk : k < n) (hp : p < n) (h0 : t p k ≠ 0) : Span n m (gj k p t) t := by
  have hpk : Comb n m (gj k p t) (t p) := ((Comb.row (gj k p t) hk).smul (t p k)).congr fun j _ => by
    simp only [gj, if_true]
    rw [← F.mul_assoc, F.mul_comm (t p k), F.inv_mul h0, F.one_mul]
  intro i hi
  by_cases e : i = p
  · subst e; exact hpk
  · have hs : sw p k i ≠ k := sw_ne e
    refine ((Comb.row (gj k p t) (sw_lt hp hk hi)).add ((Comb.row (gj k p t) hk).smul (t i k))).congr fun j _ => ?_
    simp only [gj, hs, if_false, if_true, sw_sw]
    rw [F.add_assoc, F.add_self, F.add_zero]

theorem gj_unit {n k p : Nat} {t : Nat → Nat → F} (hkp : k ≤ p) (hp : p < n) (h0 : t p k ≠ 0) (hu : ∀ i j, i < n → j < k → t i j = dl i j) :
    ∀ i j, i < n → j < k + 1 → gj k p t i j = dl i j := by
  intro i j hi hj
  by_cases ej : j = k
  · subst ej
    by_cases ei : i = j
    · subst ei; simp only [gj, if_true]; rw [F.inv_mul h0, dl_self]
    · simp only [gj, ei, if_false]; rw [F.inv_mul h0, F.mul_one, F.add_self, dl_ne ei]
  · have hjk : j < k := by omega
    have hpj : t p j = 0 := by rw [hu p j hp hjk, dl_ne (by omega)]
    by_cases ei : i = k
    · subst ei; simp only [gj, if_true]; rw [hpj, F.mul_zero, dl_ne (by omega)]
    · simp only [gj, ei, if_false]
      rw [hpj, F.mul_zero, F.mul_zero, F.add_zero, hu _ j (sw_lt hp (by omega) hi) hjk]
      unfold sw
      rw [if_neg ei]
      split
      · rename_i e; rw [dl_ne (by omega), dl_ne (by omega)]
      · rfl

/-- the first row from k on that is not 0 at column k; n if there is none -/
def piv (t : Nat → Nat → F) (k : Nat) : Nat → Nat → Nat
  | 0, p => p
  | f + 1, p => if t p k = 0 then piv t k f (p + 1) else p
theorem piv_spec (t : Nat → Nat → F) (k : Nat) : ∀ f p, p ≤ piv t k f p ∧ piv t k f p ≤ p + f ∧ (∀ i, p ≤ i → i < piv t k f p → t i k = 0) ∧ (piv t k f p < p + f → t (piv t k f p) k ≠ 0)
  | 0, p => ⟨Nat.le_refl _, Nat.le_refl _, fun i h1 h2 => by simp [piv] at h2; omega, fun h => by simp [piv] at h⟩
  | f + 1, p => by
    unfold piv
    split
    · rename_i h
      obtain ⟨h1, h2, h3, h4⟩ := piv_spec t k f (p + 1)
      refine ⟨by omega, by omega, fun i g1 g2 => ?_, fun g => h4 (by omega)⟩
      by_cases e : i = p
      · subst e; exact h
      · exact h3 i (by omega) g2
    · rename_i h
      exact ⟨Nat.le_refl _, by omega, fun i g1 g2 => by omega, fun _ => h⟩
theorem piv_unique {t : Nat → Nat → F} {k n p : Nat} (hk : k ≤ p) (hp : p < n) (hz : ∀ i, k ≤ i → i < p → t i k = 0) (h0 : t p k ≠ 0) : piv t k (n - k) k = p := by
  obtain ⟨h1, h2, h3, h4⟩ := piv_spec t k (n - k) k
  rcases Nat.lt_trichotomy (piv t k (n - k) k) p with h | h | h
  · exact absurd (hz _ h1 h) (h4 (by omega))
  · exact h
  · exact absurd (h3 p hk h) h0
theorem piv_none {t : Nat → Nat → F} {k n : Nat} (hk : k ≤ n) (hz : ∀ i, k ≤ i → i < n → t i k = 0) : piv t k (n - k) k = n := by
  obtain ⟨h1, h2, h3, h4⟩ := piv_spec t k (n - k) k
  rcases Nat.lt_or_ge (piv t k (n - k) k) n with h | h
  · exact absurd (hz _ h1 h) (h4 (by omega))
  · omega

/-- the elimination up to column k; none: a column had no pivot -/
def gjTo (n : Nat) (t : Nat → Nat → F) : Nat → Option (Nat → Nat → F)
  | 0 => some t
  | k + 1 => match gjTo n t k with
    | none => none
    | some u => if piv u k (n - k) k < n then some (gj k (piv u k (n - k) k) u) else none

theorem gjTo_spec {n m : Nat} {t : Nat → Nat → F} : ∀ {k : Nat}, k ≤ n → ∀ {u : Nat → Nat → F}, gjTo n t k = some u → Span n m t u ∧ Span n m u t ∧ ∀ i j, i < n → j < k → u i j = dl i j
  | 0, _, u, h => by
    simp only [gjTo, Option.some.injEq] at h
    subst h
    exact ⟨Span.refl _ _ _, Span.refl _ _ _, fun i j _ hj => by omega⟩
  | k + 1, hk, u, h => by
    simp only [gjTo] at h
    split at h
    · cases h
    · rename_i u' hu
      split at h
      · rename_i hp
        simp only [Option.some.injEq] at h
        subst h
        obtain ⟨h1, h2, h3⟩ := gjTo_spec (k := k) (by omega) hu
        obtain ⟨g1, g2, g3, g4⟩ := piv_spec u' k (n - k) k
        have g5 := g4 (by omega)
        exact ⟨h1.trans (gj_span (by omega) hp), (gj_back (by omega) hp g5).trans h2, gj_unit g1 hp g5 h3⟩
      · cases h

/-- a matrix with the unit matrix behind it -/
def aug (n : Nat) (a : Nat → Nat → F) (i j : Nat) : F := if j < n then a i j else dl i (j - n)

theorem aug_right (n : Nat) (a : Nat → Nat → F) (i j : Nat) : aug n a i (n + j) = dl i j := by
  unfold aug; rw [if_neg (by omega), Nat.add_sub_cancel_left]
theorem aug_left {n j : Nat} (a : Nat → Nat → F) (i : Nat) (h : j < n) : aug n a i j = a i j := by unfold aug; rw [if_pos h]

theorem sides_of {n : Nat} {a u : Nat → Nat → F} (h1 : Span n (2 * n) (aug n a) u) (h2 : Span n (2 * n) u (aug n a)) (h3 : ∀ i j, i < n → j < n → u i j = dl i j) :
    (∀ i j, i < n → j < n → sm n (fun k => u i (n + k) * a k j) = dl i j) ∧ (∀ i j, i < n → j < n → sm n (fun k => a i k * u k (n + j)) = dl i j) := by
  constructor
  · intro i j hi hj
    obtain ⟨c, hc⟩ := h1 i hi
    have e : ∀ k, k < n → u i (n + k) = c k := fun k hk => by
      rw [hc (n + k) (by omega)]
      rw [sm_congr (g := fun l => c l * dl l k) fun l _ => by rw [aug_right]]
      exact sm_dl' hk c
    rw [sm_congr (g := fun k => c k * aug n a k j) fun k hk => by rw [e k hk, aug_left _ _ hj]]
    rw [← hc j (by omega), h3 i j hi hj]
  · intro i j hi hj
    obtain ⟨c, hc⟩ := h2 i hi
    have e : ∀ k, k < n → a i k = c k := fun k hk => by
      have := hc k (by omega)
      rw [sm_congr (g := fun l => c l * dl l k) fun l hl => by rw [h3 l k hl hk], sm_dl' hk c] at this
      rwa [aug_left _ _ hk] at this
    have := hc (n + j) (by omega)
    rw [aug_right] at this
    rw [this]
    exact sm_congr fun k hk => by rw [e k hk]

theorem kernel_of {n k : Nat} {a u : Nat → Nat → F} (hk : k < n) (h2 : Span n (2 * n) u (aug n a)) (h3 : ∀ i j, i < n → j < k → u i j = dl i j) (h4 : ∀ i, k ≤ i → i < n → u i k = 0) :
    ∃ x : Nat → F, x k = 1 ∧ ∀ i, i < n → sm n (fun j => a i j * x j) = 0 := by
  refine ⟨fun j => if j < k then u j k else if j = k then 1 else 0, by simp, fun i hi => ?_⟩
  show sm n (fun j => a i j * (if j < k then u j k else if j = k then 1 else 0)) = 0
  have base : ∀ i, i < n → sm n (fun j => u i j * (if j < k then u j k else if j = k then 1 else 0)) = 0 := by
    intro i hi
    have e : ∀ j, j < n → u i j * (if j < k then u j k else if j = k then 1 else 0) = (dl i j * (if j < k then u j k else 0)) + (u i k * dl j k) := by
      intro j _
      by_cases h : j < k
      · rw [if_pos h, if_pos h, h3 i j hi h, dl_ne (show j ≠ k by omega), F.mul_zero, F.add_zero]
      · rw [if_neg h, if_neg h, F.mul_zero, F.zero_add]
        by_cases hjk : j = k
        · subst hjk; rw [if_pos rfl, dl_self]
        · rw [if_neg hjk, dl_ne hjk, F.mul_zero, F.mul_zero]
    rw [sm_congr e, sm_add, sm_dl hi, sm_dl' hk (fun _ => u i k)]
    by_cases h : i < k
    · rw [if_pos h, F.add_self]
    · rw [if_neg h, h4 i (by omega) hi, F.add_zero]
  obtain ⟨c, hc⟩ := h2 i hi
  have e : ∀ j, j < n → a i j = sm n (fun l => c l * u l j) := fun j hj => by
    have := hc j (by omega)
    rwa [aug_left _ _ hj] at this
  rw [sm_congr (g := fun j => sm n (fun l => c l * (u l j * (if j < k then u j k else if j = k then 1 else 0)))) fun j hj => by
    rw [e j hj, sm_mul_right]; exact sm_congr fun l _ => F.mul_assoc _ _ _]
  rw [sm_comm, sm_congr (g := fun _ => 0) fun l hl => by rw [← sm_mul, base l hl, F.mul_zero], sm_zero]

/-- what the elimination gives: a matrix that is inverse on both sides, or a vector that is sent to 0 -/
theorem gjTo_some {n : Nat} {a u : Nat → Nat → F} (h : gjTo n (aug n a) n = some u) :
    (∀ i j, i < n → j < n → sm n (fun k => u i (n + k) * a k j) = dl i j) ∧ (∀ i j, i < n → j < n → sm n (fun k => a i k * u k (n + j)) = dl i j) := by
  obtain ⟨h1, h2, h3⟩ := gjTo_spec (m := 2 * n) (Nat.le_refl n) h
  exact sides_of h1 h2 h3
theorem gjTo_none {n : Nat} {a : Nat → Nat → F} : ∀ {k : Nat}, k ≤ n → gjTo n (aug n a) k = none → ∃ l, l < n ∧ ∃ x : Nat → F, x l = 1 ∧ ∀ i, i < n → sm n (fun j => a i j * x j) = 0
  | 0, _, h => by simp [gjTo] at h
  | k + 1, hk, h => by
    simp only [gjTo] at h
    split at h
    · rename_i h'
      exact gjTo_none (by omega) h'
    · rename_i u hu
      split at h
      · cases h
      · rename_i hp
        obtain ⟨h1, h2, h3⟩ := gjTo_spec (m := 2 * n) (k := k) (by omega) hu
        obtain ⟨g1, g2, g3, g4⟩ := piv_spec u k (n - k) k
        exact ⟨k, by omega, kernel_of (by omega) h2 h3 fun i hi hin => g3 i hi (by omega)⟩

theorem mm_assoc (n : Nat) (a b : Nat → Nat → F) (x : Nat → F) (i : Nat) : sm n (fun k => sm n (fun l => a i l * b l k) * x k) = sm n (fun l => a i l * sm n (fun k => b l k * x k)) := by
  rw [sm_congr (g := fun k => sm n (fun l => a i l * (b l k * x k))) fun k _ => by rw [sm_mul_right]; exact sm_congr fun l _ => F.mul_assoc _ _ _, sm_comm]
  exact sm_congr fun l _ => (sm_mul _ _ _).symm

/-- a matrix with an inverse on the left is not sent to nothing by the elimination -/
theorem gjTo_of_left {n : Nat} {a b : Nat → Nat → F} (h : ∀ i j, i < n → j < n → sm n (fun k => b i k * a k j) = dl i j) : ∃ u, gjTo n (aug n a) n = some u := by
  cases hg : gjTo n (aug n a) n with
  | some u => exact ⟨u, rfl⟩
  | none =>
    obtain ⟨l, hl, x, hx, h0⟩ := gjTo_none (Nat.le_refl n) hg
    have e := mm_assoc n b a x l
    rw [sm_congr (g := fun k => dl l k * x k) fun k hk => by rw [h l k hl hk], sm_dl hl,
      sm_congr (g := fun _ => 0) fun k hk => by rw [h0 k hk, F.mul_zero], sm_zero, hx] at e
    exact absurd e F.one_ne_zero

/-- the inverse of the inverse -/
theorem gjTo_twice {n : Nat} {a u : Nat → Nat → F} (h : gjTo n (aug n a) n = some u) :
    ∃ w, gjTo n (aug n (fun i j => u i (n + j))) n = some w ∧ ∀ i j, i < n → j < n → w i (n + j) = a i j := by
  obtain ⟨h1, h2⟩ := gjTo_some h
  obtain ⟨w, hw⟩ := gjTo_of_left (a := fun i j => u i (n + j)) (b := a) (n := n) h2
  refine ⟨w, hw, fun i j hi hj => ?_⟩
  obtain ⟨g1, _⟩ := gjTo_some hw
  have e := mm_assoc n (fun i k => w i (n + k)) (fun i j => u i (n + j)) (fun k => a k j) i
  rw [sm_congr (g := fun k => dl i k * a k j) fun k hk => by rw [g1 i k hi hk], sm_dl hi,
    sm_congr (g := fun l => w i (n + l) * dl l j) fun l hl => by rw [h1 l j hl hj], sm_dl' hj (fun l => w i (n + l))] at e
  exact e.symm

/-- where one row is a combination of the others the elimination finds no inverse -/
theorem gjTo_dep {n r : Nat} {a : Nat → Nat → F} (hr : r < n) (c : Nat → F) (hc : c r = 0) (h : ∀ j, j < n → a r j = sm n (fun k => c k * a k j)) : gjTo n (aug n a) n = none := by
  cases hg : gjTo n (aug n a) n with
  | none => rfl
  | some u =>
    obtain ⟨_, h2⟩ := gjTo_some hg
    have e := h2 r r hr hr
    rw [sm_congr (g := fun k => sm n (fun l => c l * a l k) * u k (n + r)) fun k hk => by rw [h k hk]] at e
    have := mm_assoc n (fun _ l => c l) a (fun k => u k (n + r)) r
    rw [this, sm_congr (g := fun l => c l * dl l r) fun l hl => by rw [h2 l r hl hr], sm_dl' hr c, hc, dl_self] at e
    exact absurd e.symm F.one_ne_zero
end GF
