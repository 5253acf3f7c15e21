/- Natural numbers as lists of limbs: length, comparison, product; plain. -/
import Derived.Test.YtgnmolleaengaaaGreatRows
set_option linter.unusedVariables false
set_option linter.unusedSimpArgs false
set_option linter.unnecessarySimpa false
namespace Go.Proofs.YtgnmolleaengaaaGreat
open Go

/-- the length without zero limbs at the end -/
def clen : List Nat → Nat
  | [] => 0
  | x :: l => if clen l = 0 then (if x = 0 then 0 else 1) else clen l + 1
def trim (l : List Nat) : List Nat := l.take (clen l)
theorem clen_le : ∀ l : List Nat, clen l ≤ l.length
  | [] => Nat.le_refl _
  | x :: l => by
    have := clen_le l
    simp only [clen, List.length_cons]
    split
    · split <;> omega
    · omega
theorem clen_eq : ∀ (l : List Nat) (n : Nat), n ≤ l.length → (∀ j x, n ≤ j → l[j]? = some x → x = 0) → (n = 0 ∨ ∃ x, l[n - 1]? = some x ∧ x ≠ 0) → clen l = n
  | [], n, h, _, _ => by simp at h; rw [h]; rfl
  | x :: l, 0, _, h2, _ => by
    have h := clen_eq l 0 (Nat.zero_le _) (fun j y _ hy => h2 (j + 1) y (by omega) (by simpa using hy)) (.inl rfl)
    have hx := h2 0 x (by omega) rfl
    simp [clen, h, hx]
  | x :: l, n + 1, h1, h2, h3 => by
    have h1' : n ≤ l.length := by simpa using h1
    rcases h3 with h3 | ⟨y, hy, hy0⟩
    · omega
    rw [Nat.add_sub_cancel] at hy
    cases n with
    | zero =>
      have h := clen_eq l 0 (Nat.zero_le _) (fun j y _ hy => h2 (j + 1) y (by omega) (by simpa using hy)) (.inl rfl)
      simp at hy
      subst hy
      simp [clen, h, hy0]
    | succ n =>
      have h := clen_eq l (n + 1) h1' (fun j y hj hy => h2 (j + 1) y (by omega) (by simpa using hy)) (.inr ⟨y, by simpa using hy, hy0⟩)
      simp [clen, h]
theorem trim_len (l : List Nat) : (trim l).length = clen l := by
  unfold trim
  rw [List.length_take]
  exact Nat.min_eq_left (clen_le l)
theorem clen_top : ∀ (l : List Nat), clen l ≠ 0 → ∃ x, l[clen l - 1]? = some x ∧ x ≠ 0
  | [], h => absurd rfl h
  | x :: l, h => by
    simp only [clen] at h ⊢
    split
    · rename_i h0
      split
      · rename_i hx; rw [if_pos h0, if_pos hx] at h; exact absurd rfl h
      · rename_i hx; exact ⟨x, by simp, hx⟩
    · rename_i h0
      obtain ⟨y, hy, hy0⟩ := clen_top l h0
      refine ⟨y, ?_, hy0⟩
      rw [Nat.add_sub_cancel, show clen l = clen l - 1 + 1 by omega, List.getElem?_cons_succ]
      exact hy
theorem trim_trim (l : List Nat) : trim (trim l) = trim l := by
  have h : clen (trim l) = clen l := by
    refine clen_eq _ _ (by rw [trim_len]; exact Nat.le_refl _) (fun j x hj hx => ?_) ?_
    · have := (List.getElem?_eq_some_iff.1 hx).1
      rw [trim_len] at this
      omega
    · by_cases h0 : clen l = 0
      · exact .inl h0
      · obtain ⟨x, hx, hx0⟩ := clen_top l h0
        refine .inr ⟨x, ?_, hx0⟩
        unfold trim
        rw [List.getElem?_take, if_pos (by omega)]
        exact hx
  show (trim l).take (clen (trim l)) = trim l
  rw [h, List.take_of_length_le (by rw [trim_len]; exact Nat.le_refl _)]
theorem clen_trim (l : List Nat) : clen (trim l) = clen l := by
  rw [← trim_len (trim l), trim_trim, trim_len]

/-- one limb, or none -/
def limb (n : Nat) : List Nat := if n = 0 then [] else [n]
theorem clen_limb (n : Nat) : clen (limb n) = if n = 0 then 0 else 1 := by
  unfold limb
  split <;> simp_all [clen]
theorem trim_limb (n : Nat) : trim (limb n) = limb n := by
  unfold trim limb
  split <;> simp_all [clen]
theorem limb_len (n : Nat) : (limb n).length = if n = 0 then 0 else 1 := by unfold limb; split <;> rfl

/-- the order from limb i - 1 downwards -/
def cmpAt (a b : List Nat) : Nat → Int
  | 0 => 0
  | i + 1 => if a.getD i 0 < b.getD i 0 then -1 else if b.getD i 0 < a.getD i 0 then 1 else cmpAt a b i
def cmpN (a b : List Nat) : Int := if clen a < clen b then -1 else if clen b < clen a then 1 else cmpAt a b (clen a)
theorem cmpAt_self (a : List Nat) : ∀ i, cmpAt a a i = 0
  | 0 => rfl
  | i + 1 => by simp [cmpAt, cmpAt_self a i]
theorem cmpN_self (a : List Nat) : cmpN a a = 0 := by simp [cmpN, cmpAt_self]
theorem cmpN_limb (x y : Nat) : cmpN (limb x) (limb y) = if x < y then -1 else if y < x then 1 else 0 := by
  unfold cmpN
  rw [clen_limb, clen_limb]
  unfold limb
  by_cases hx : x = 0 <;> by_cases hy : y = 0
  · subst hx; subst hy; simp [cmpAt]
  · subst hx; simp [hy, show 0 < y by omega]
  · subst hy; simp [hx, show 0 < x by omega]
  · simp [hx, hy, cmpAt]
theorem cmpAt_trim (a b : List Nat) : ∀ i, i ≤ clen a → i ≤ clen b → cmpAt (trim a) (trim b) i = cmpAt a b i
  | 0, _, _ => rfl
  | i + 1, ha, hb => by
    have e : ∀ l : List Nat, i + 1 ≤ clen l → (trim l).getD i 0 = l.getD i 0 := fun l hl => by
      simp only [List.getD_eq_getElem?_getD, trim, List.getElem?_take]
      rw [if_pos (by omega)]
    simp only [cmpAt, e a ha, e b hb, cmpAt_trim a b i (by omega) (by omega)]
theorem cmpN_trim (a b : List Nat) : cmpN (trim a) (trim b) = cmpN a b := by
  unfold cmpN
  rw [clen_trim, clen_trim]
  split
  · rfl
  split
  · rfl
  · exact cmpAt_trim a b _ (Nat.le_refl _) (by omega)

/-- a row of the product: the limbs of b times x, added from place i on -/
def inn (x i : Nat) : List Nat → Nat → Nat → List Nat → Nat × List Nat
  | [], _, c, o => (c, o)
  | y :: b, j, c, o => inn x i b (j + 1) ((c + (x * y + o.getD (i + j) 0)) / 4294967296) (o.set (i + j) ((c + (x * y + o.getD (i + j) 0)) % 4294967296))
def outr (b : List Nat) : List Nat → Nat → List Nat → List Nat
  | [], _, o => o
  | x :: a, i, o => outr b a (i + 1) ((inn x i b 0 0 o).2.set (i + b.length) ((inn x i b 0 0 o).1 % 4294967296))
/-- the product, not yet trimmed -/
def mul0 (a b : List Nat) : List Nat := outr b a 0 (List.replicate (a.length + b.length) 0)
def mulL (a b : List Nat) : List Nat := trim (mul0 (trim a) (trim b))
def Lims (l : List Nat) : Prop := ∀ x ∈ l, x < 4294967296
theorem Lims.trim {l : List Nat} (h : Lims l) : Lims (trim l) := fun x hx => h x (List.mem_of_mem_take hx)
theorem Lims.set {l : List Nat} (h : Lims l) (i : Nat) {x : Nat} (hx : x < 4294967296) : Lims (l.set i x) := fun y hy => by
  rcases List.mem_or_eq_of_mem_set hy with h1 | rfl
  · exact h y h1
  · exact hx
theorem Lims.get {l : List Nat} (h : Lims l) (i : Nat) : l.getD i 0 < 4294967296 := by
  rw [List.getD_eq_getElem?_getD]
  cases hi : l[i]? with
  | none => simp
  | some x => exact h x (List.mem_of_getElem? hi)
theorem Lims.limb {n : Nat} (h : n < 4294967296) : Lims (limb n) := fun x hx => by
  unfold YtgnmolleaengaaaGreat.limb at hx
  split at hx
  · cases hx
  · rw [List.mem_singleton.1 hx]; exact h
theorem inn_len (x i : Nat) : ∀ (b : List Nat) (j c : Nat) (o : List Nat), (inn x i b j c o).2.length = o.length
  | [], _, _, _ => rfl
  | y :: b, j, c, o => by rw [inn, inn_len]; simp
theorem inn_ok {x : Nat} (hx : x < 4294967296) (i : Nat) : ∀ (b : List Nat) (j c : Nat) (o : List Nat), Lims b → c < 4294967296 → Lims o → (inn x i b j c o).1 < 4294967296 ∧ Lims (inn x i b j c o).2
  | [], _, _, _, _, hc, ho => ⟨hc, ho⟩
  | y :: b, j, c, o, hb, hc, ho => by
    rw [inn]
    have hy := hb y (by simp)
    have h0 := ho.get (i + j)
    have hxy : x * y ≤ 4294967295 * 4294967295 := Nat.mul_le_mul (by omega) (by omega)
    exact inn_ok hx i b (j + 1) _ _ (fun z hz => hb z (by simp [hz])) (by omega) (ho.set _ (Nat.mod_lt _ (by omega)))
theorem outr_ok {b : List Nat} (hb : Lims b) : ∀ (a : List Nat) (i : Nat) (o : List Nat), Lims a → Lims o → Lims (outr b a i o) ∧ (outr b a i o).length = o.length
  | [], _, _, _, ho => ⟨ho, rfl⟩
  | x :: a, i, o, ha, ho => by
    rw [outr]
    have h := inn_ok (ha x (by simp)) i b 0 0 o hb (by omega) ho
    have := outr_ok hb a (i + 1) _ (fun z hz => ha z (by simp [hz])) (h.2.set (i + b.length) (x := (inn x i b 0 0 o).1 % 4294967296) (Nat.mod_lt _ (by omega)))
    exact ⟨this.1, by rw [this.2]; simp [inn_len]⟩
theorem mul0_ok {a b : List Nat} (ha : Lims a) (hb : Lims b) : Lims (mul0 a b) ∧ (mul0 a b).length = a.length + b.length := by
  have := outr_ok hb a 0 (List.replicate (a.length + b.length) 0) ha (fun x hx => by rw [(List.mem_replicate.1 hx).2]; omega)
  exact ⟨this.1, by unfold mul0; rw [this.2]; simp⟩
theorem mulL_ok {a b : List Nat} (ha : Lims a) (hb : Lims b) : Lims (mulL a b) := ((mul0_ok ha.trim hb.trim).1).trim
theorem mulL_len {a b : List Nat} (ha : Lims a) (hb : Lims b) : (mulL a b).length ≤ clen a + clen b := by
  unfold mulL
  rw [trim_len]
  have h1 := clen_le (mul0 (trim a) (trim b))
  rw [(mul0_ok ha.trim hb.trim).2, trim_len, trim_len] at h1
  exact h1
theorem mulL_limb {x y : Nat} (h : x * y < 4294967296) : mulL (limb x) (limb y) = limb (x * y) := by
  unfold mulL mul0
  rw [trim_limb, trim_limb]
  unfold limb
  by_cases hx : x = 0 <;> by_cases hy : y = 0
  · subst hx; subst hy; rfl
  · subst hx; simp [hy, outr, trim, clen]
  · subst hy; simp [hx, outr, inn, trim, clen]
  · have hp : x * y ≠ 0 := Nat.mul_ne_zero hx hy
    have h1 : x * y % 4294967296 = x * y := Nat.mod_eq_of_lt h
    have h2 : x * y / 4294967296 = 0 := Nat.div_eq_of_lt h
    simp [hx, hy, outr, inn, trim, clen, h1, h2, hp]
end Go.Proofs.YtgnmolleaengaaaGreat
