/- Plain laws of the field of 256 elements: bytes as natural numbers below 256. No program in sight. -/
set_option linter.unusedVariables false
set_option linter.unusedSimpArgs false
set_option linter.unnecessarySimpa false
namespace GF

/-- one doubling -/
def xt (a : Nat) : Nat := (a * 2 % 256) ^^^ (a / 128 * 29)

def go : Nat → Nat → Nat → Nat → Nat
  | 0, _, _, out => out
  | n + 1, a, b, out => go n (xt a) (b / 2) (if b % 2 = 1 then out ^^^ a else out)

def mul (a b : Nat) : Nat := go 8 a b 0

theorem xor_lt {a b : Nat} (ha : a < 256) (hb : b < 256) : a ^^^ b < 256 := Nat.xor_lt_two_pow (n := 8) ha hb

theorem xt_lt {a : Nat} (ha : a < 256) : xt a < 256 := by
  unfold xt
  exact xor_lt (Nat.mod_lt _ (by decide)) (by have : a / 128 ≤ 1 := by omega
                                              omega)

theorem go_lt : ∀ (n a b out : Nat), a < 256 → out < 256 → go n a b out < 256
  | 0, _, _, _, _, h => h
  | n + 1, a, b, out, ha, ho => by
    unfold go
    refine go_lt n _ _ _ (xt_lt ha) ?_
    split
    · exact xor_lt ho ha
    · exact ho

theorem mul_lt {a b : Nat} (ha : a < 256) : mul a b < 256 := go_lt _ _ _ _ ha (by decide)

theorem go_zero : ∀ (n a out : Nat), go n a 0 out = out
  | 0, _, _ => rfl
  | n + 1, a, out => by unfold go; simp [go_zero n]

theorem xor_left_comm (a b c : Nat) : a ^^^ (b ^^^ c) = b ^^^ (a ^^^ c) := by
  rw [← Nat.xor_assoc, Nat.xor_comm a b, Nat.xor_assoc]
theorem xt_eq (a : Nat) : xt a = (a <<< 1) % 2 ^ 8 ^^^ (a >>> 7) * 29 := by
  unfold xt; rw [Nat.shiftLeft_eq, Nat.shiftRight_eq_div_pow]
theorem xt_xor (a : Nat) (ha : a < 256) (c : Nat) (hc : c < 256) : xt (a ^^^ c) = xt a ^^^ xt c := by
  rw [xt_eq, xt_eq a, xt_eq c, Nat.shiftLeft_xor_distrib, Nat.xor_mod_two_pow, Nat.shiftRight_xor_distrib]
  have h1 : a >>> 7 = 0 ∨ a >>> 7 = 1 := by rw [Nat.shiftRight_eq_div_pow]; omega
  have h2 : c >>> 7 = 0 ∨ c >>> 7 = 1 := by rw [Nat.shiftRight_eq_div_pow]; omega
  generalize a <<< 1 % 2 ^ 8 = u, c <<< 1 % 2 ^ 8 = v
  rcases h1 with h1 | h1 <;> rcases h2 with h2 | h2 <;> rw [h1, h2] <;> simp [Nat.xor_assoc]
  · rw [Nat.xor_comm v 29]
  · rw [Nat.xor_comm v 29, ← Nat.xor_assoc 29 29]; simp


theorem go_out : ∀ (n a b out : Nat), go n a b out = out ^^^ go n a b 0
  | 0, _, _, out => by simp [go]
  | n + 1, a, b, out => by
    unfold go
    rw [go_out n _ _ (if b % 2 = 1 then out ^^^ a else out), go_out n _ _ (if b % 2 = 1 then 0 ^^^ a else 0)]
    split <;> simp [Nat.xor_assoc]

theorem go_add_left : ∀ (n a c b : Nat), a < 256 → c < 256 → go n (a ^^^ c) b 0 = go n a b 0 ^^^ go n c b 0
  | 0, _, _, _, _, _ => by simp [go]
  | n + 1, a, c, b, ha, hc => by
    unfold go
    rw [xt_xor a ha c hc, go_out n _ _ (if b % 2 = 1 then 0 ^^^ (a ^^^ c) else 0), go_out n (xt a) _ (if b % 2 = 1 then 0 ^^^ a else 0), go_out n (xt c) _ (if b % 2 = 1 then 0 ^^^ c else 0),
      go_add_left n _ _ _ (xt_lt ha) (xt_lt hc)]
    split
    · simp only [Nat.zero_xor, Nat.xor_assoc]
      rw [xor_left_comm c]
    · simp

theorem xor_div2 (a b : Nat) : (a ^^^ b) / 2 = a / 2 ^^^ b / 2 := by
  have := Nat.shiftRight_xor_distrib (i := 1) (a := a) (b := b)
  simpa [Nat.shiftRight_eq_div_pow] using this

theorem xor_mod2 (a b : Nat) : (a ^^^ b) % 2 = (a % 2 + b % 2) % 2 := by
  have := Nat.xor_mod_two_pow (n := 1) (a := a) (b := b)
  simp at this
  rw [this]
  have h1 : a % 2 = 0 ∨ a % 2 = 1 := by omega
  have h2 : b % 2 = 0 ∨ b % 2 = 1 := by omega
  rcases h1 with h1 | h1 <;> rcases h2 with h2 | h2 <;> simp [h1, h2]

theorem go_add_right : ∀ (n a b c : Nat), go n a (b ^^^ c) 0 = go n a b 0 ^^^ go n a c 0
  | 0, _, _, _ => by simp [go]
  | n + 1, a, b, c => by
    unfold go
    rw [xor_div2, go_out n _ _ (if (b ^^^ c) % 2 = 1 then 0 ^^^ a else 0), go_out n _ (b / 2) (if b % 2 = 1 then 0 ^^^ a else 0), go_out n _ (c / 2) (if c % 2 = 1 then 0 ^^^ a else 0),
      go_add_right n, xor_mod2]
    have h1 : b % 2 = 0 ∨ b % 2 = 1 := by omega
    have h2 : c % 2 = 0 ∨ c % 2 = 1 := by omega
    rcases h1 with h1 | h1 <;> rcases h2 with h2 | h2 <;> simp [h1, h2, Nat.xor_assoc]
    · rw [xor_left_comm]
    · rw [xor_left_comm (go n (xt a) (b / 2) 0), ← Nat.xor_assoc a a]; simp

theorem mul_add {a b c : Nat} : mul a (b ^^^ c) = mul a b ^^^ mul a c := go_add_right 8 a b c
theorem add_mul {a b c : Nat} (ha : a < 256) (hb : b < 256) : mul (a ^^^ b) c = mul a c ^^^ mul b c := go_add_left 8 a b c ha hb

theorem split_top : ∀ n, n < 8 → ∀ a, a < 256 → 2 ^ n ≤ a → a < 2 ^ (n + 1) → 2 ^ n ^^^ (a - 2 ^ n) = a := by decide +kernel

/-- what holds of 0, of the eight powers of 2, and of sums, holds of all bytes -/
theorem ind {p : Nat → Prop} (h0 : p 0) (hb : ∀ i, i < 8 → p (2 ^ i)) (hx : ∀ a b, a < 256 → b < 256 → p a → p b → p (a ^^^ b)) : ∀ a, a < 256 → p a := by
  have key : ∀ n, n ≤ 8 → ∀ a, a < 2 ^ n → p a := by
    intro n
    induction n with
    | zero => intro _ a ha; have : a = 0 := by simpa using ha
              rw [this]; exact h0
    | succ n ih =>
      intro hn a ha
      have hle : 2 ^ (n + 1) ≤ 2 ^ 8 := Nat.pow_le_pow_right (by decide) hn
      by_cases h : a < 2 ^ n
      · exact ih (by omega) a h
      · have e := split_top n (by omega) a (by omega) (by omega) ha
        rw [← e]
        refine hx _ _ ?_ ?_ (hb n (by omega)) (ih (by omega) _ ?_)
        · rw [Nat.pow_succ] at hle; omega
        · omega
        · rw [Nat.pow_succ] at ha; omega
  exact fun a ha => key 8 (by omega) a ha

theorem mul_zero (a : Nat) : mul a 0 = 0 := go_zero 8 a 0
theorem zero_go : ∀ n b, go n 0 b 0 = 0
  | 0, _ => rfl
  | n + 1, b => by unfold go; simpa [xt] using zero_go n (b / 2)
theorem zero_mul (b : Nat) : mul 0 b = 0 := zero_go 8 b

theorem mul_comm {a b : Nat} (ha : a < 256) (hb : b < 256) : mul a b = mul b a := by
  revert b
  refine ind (p := fun a => ∀ {b}, b < 256 → mul a b = mul b a) ?_ ?_ ?_ a ha
  · intro b _; rw [zero_mul, mul_zero]
  · intro i hi b hb
    refine ind (p := fun b => mul (2 ^ i) b = mul b (2 ^ i)) ?_ ?_ ?_ b hb
    · rw [zero_mul, mul_zero]
    · intro j hj
      revert i j
      decide +kernel
    · intro c d hc hd h1 h2
      rw [mul_add, add_mul hc hd, h1, h2]
  · intro c d hc hd h1 h2 b hb
    rw [mul_add, add_mul hc hd, h1 hb, h2 hb]

theorem mul_assoc {a b c : Nat} (ha : a < 256) (hb : b < 256) (hc : c < 256) : mul (mul a b) c = mul a (mul b c) := by
  revert b c
  refine ind (p := fun a => ∀ {b c}, b < 256 → c < 256 → mul (mul a b) c = mul a (mul b c)) ?_ ?_ ?_ a ha
  · intro b c _ _; simp [zero_mul]
  · intro i hi b c hb hc
    revert c
    refine ind (p := fun b => ∀ {c}, c < 256 → mul (mul (2 ^ i) b) c = mul (2 ^ i) (mul b c)) ?_ ?_ ?_ b hb
    · intro c _; simp [zero_mul, mul_zero]
    · intro j hj c hc
      refine ind (p := fun c => mul (mul (2 ^ i) (2 ^ j)) c = mul (2 ^ i) (mul (2 ^ j) c)) ?_ ?_ ?_ c hc
      · simp [mul_zero]
      · intro k hk
        revert i j k
        decide +kernel
      · intro d e hd he h1 h2
        simp only [mul_add, h1, h2]
    · intro d e hd he h1 h2 c hc
      have hi' : 2 ^ i < 256 := by have : 2 ^ i ≤ 2 ^ 7 := Nat.pow_le_pow_right (by decide) (by omega)
                                   omega
      rw [mul_add, add_mul hd he, mul_add, add_mul (mul_lt hi') (mul_lt hi'), h1 hc, h2 hc]
  · intro d e hd he h1 h2 b c hb hc
    rw [add_mul hd he, add_mul (mul_lt hd) (mul_lt he), add_mul hd he, h1 hb hc, h2 hb hc]

theorem mul_one : ∀ a, a < 256 → mul a 1 = a := by decide +kernel
theorem one_mul {a : Nat} (ha : a < 256) : mul 1 a = a := by rw [mul_comm (by decide) ha, mul_one a ha]

/-- powers -/
def pw (a : Nat) : Nat → Nat
  | 0 => 1
  | n + 1 => mul (pw a n) a

theorem pw_lt {a : Nat} (n : Nat) : pw a n < 256 := by
  induction n with
  | zero => show 1 < 256; decide
  | succ n ih => exact mul_lt ih

theorem pw_add {a : Nat} (ha : a < 256) (m n : Nat) : pw a (m + n) = mul (pw a m) (pw a n) := by
  induction n with
  | zero => rw [Nat.add_zero]; exact (mul_one _ (pw_lt m)).symm
  | succ n ih => rw [← Nat.add_assoc]; simp only [pw]; rw [ih, mul_assoc (pw_lt m) (pw_lt n) ha]

theorem mul_pw {a : Nat} (ha : a < 256) (n : Nat) : mul a (pw a n) = pw a (n + 1) := by
  rw [mul_comm ha (pw_lt n)]; rfl

theorem pw_mul {a : Nat} (ha : a < 256) (m n : Nat) : pw a (m * n) = pw (pw a m) n := by
  induction n with
  | zero => rfl
  | succ n ih => rw [Nat.mul_succ, pw_add ha, ih]; rfl

/-- square and multiply, as the program does it -/
def sq : Nat → Nat → Nat → Nat → Nat
  | 0, _, _, out => out
  | f + 1, a, n, out => sq f (mul a a) (n / 2) (if n % 2 = 1 then mul out a else out)

theorem pw_sq {a : Nat} (ha : a < 256) (n : Nat) : pw (mul a a) n = pw a (2 * n) := by
  rw [pw_mul ha]; show _ = pw (mul (mul 1 a) a) n; rw [one_mul ha]

/-- log: the least n with 2^n = a -/
def lgAux : Nat → Nat → Nat → Nat → Nat
  | 0, _, _, n => n
  | f + 1, a, x, n => if x = a then n else lgAux f a (mul x 2) (n + 1)
def lg (a : Nat) : Nat := lgAux 255 a 1 0

theorem lg_spec : ∀ a, a < 256 → a ≠ 0 → lg a < 255 ∧ pw 2 (lg a) = a := by decide +kernel
theorem pw2_255 : pw 2 255 = 1 := by decide +kernel

end GF
namespace GF
theorem go_step {n x y z r : Nat} (hy : 0 < y) (hn : y < 2 ^ n) (h : go n x y z = r) :
    ∃ m, y / 2 < 2 ^ m ∧ go m (xt x) (y / 2) (if y % 2 = 1 then z ^^^ x else z) = r := by
  cases n with
  | zero => simp at hn; omega
  | succ m => exact ⟨m, by rw [Nat.pow_succ] at hn; omega, by rw [← h]; rfl⟩

/-- the reference's doubling -/
theorem xt_ref : ∀ x, x < 256 → xt x = if 256 ≤ 2 * x then (2 * x) ^^^ 285 else 2 * x := by decide +kernel

theorem sq_spec : ∀ (f a n out : Nat), a < 256 → out < 256 → n < 2 ^ f → sq f a n out = mul out (pw a n)
  | 0, a, n, out, _, ho, hn => by
    have : n = 0 := by simpa using hn
    subst this; exact (mul_one out ho).symm
  | f + 1, a, n, out, ha, ho, hn => by
    unfold sq
    rw [sq_spec f (mul a a) (n / 2) _ (mul_lt ha) (by split; exact mul_lt ho; exact ho) (by rw [Nat.pow_succ] at hn; omega), pw_sq ha]
    split
    · rename_i h
      rw [mul_assoc ho ha (pw_lt _), mul_pw ha]
      congr 2
      omega
    · congr 2
      omega
end GF

namespace GF
theorem sq_step {f x y z r : Nat} (hy : 0 < y) (hn : y < 2 ^ f) (h : sq f x y z = r) :
    ∃ m, y / 2 < 2 ^ m ∧ sq m (mul x x) (y / 2) (if y % 2 = 1 then mul z x else z) = r := by
  cases f with
  | zero => simp at hn; omega
  | succ m => exact ⟨m, by rw [Nat.pow_succ] at hn; omega, by rw [← h]; rfl⟩
end GF
namespace GF
/-- the inverse; 0 at 0 -/
def inv (a : Nat) : Nat := pw a 254
theorem inv_lt (a : Nat) : inv a < 256 := pw_lt 254
theorem inv_sq (a : Nat) (ha : a < 256) : inv a = sq 8 a 254 1 := by
  rw [sq_spec 8 a 254 1 ha (by decide) (by decide), one_mul (pw_lt _)]; rfl
theorem mul_sq : ∀ a, a < 256 → a ≠ 0 → mul (sq 8 a 254 1) a = 1 := by decide +kernel
theorem mul_inv (a : Nat) (ha : a < 256) (h : a ≠ 0) : mul (inv a) a = 1 := by rw [inv_sq a ha]; exact mul_sq a ha h
theorem pw_255 (a : Nat) (ha : a < 256) (h : a ≠ 0) : pw a 255 = 1 := mul_inv a ha h
theorem inv_zero : inv 0 = 0 := by rw [inv_sq 0 (by decide)]; decide +kernel
/-- the power with any exponent -/
def pwI (a : Nat) (n : Int) : Nat := if n = 0 then 1 else if a = 0 then 0 else pw a (n % 255).toNat
theorem pwI_lt (a : Nat) (n : Int) : pwI a n < 256 := by
  unfold pwI; split
  · decide
  · split
    · decide
    · exact pw_lt _
end GF
namespace GF
theorem mul_two : ∀ x, x < 256 → mul x 2 = xt x := by decide +kernel
theorem lgAux_min : ∀ (f a n : Nat), (∀ j, n ≤ j → j < lgAux f a (pw 2 n) n → pw 2 j ≠ a)
  | 0, a, n => fun j h1 h2 => by unfold lgAux at h2; omega
  | f + 1, a, n => fun j h1 h2 => by
    unfold lgAux at h2
    split at h2
    · omega
    · rename_i hne
      by_cases e : j = n
      · subst e; exact hne
      · exact lgAux_min f a (n + 1) j (by omega) h2
theorem lg_min {a j : Nat} (h : j < lg a) : pw 2 j ≠ a := lgAux_min 255 a 0 j (by omega) h
def chk : Nat → Nat → Bool
  | 0, _ => true
  | f + 1, x => x != 1 && chk f (xt x)
theorem chk_spec : ∀ (f n : Nat), chk f (pw 2 n) = true → ∀ j, n ≤ j → j < n + f → pw 2 j ≠ 1
  | 0, n, _, j, h1, h2 => by omega
  | f + 1, n, h, j, h1, h2 => by
    simp only [chk, Bool.and_eq_true, bne_iff_ne] at h
    by_cases e : j = n
    · subst e; exact h.1
    · refine chk_spec f (n + 1) ?_ j (by omega) (by omega)
      show chk f (mul (pw 2 n) 2) = true
      rw [mul_two _ (pw_lt n)]; exact h.2
theorem pw2_ne_one (j : Nat) (h1 : 1 ≤ j) (h2 : j < 255) : pw 2 j ≠ 1 := chk_spec 254 1 (by decide +kernel) j h1 h2

theorem mul_eq_zero {a b : Nat} (ha : a < 256) (hb : b < 256) (h : mul a b = 0) (hb0 : b ≠ 0) : a = 0 := by
  have h1 : mul (mul a b) (inv b) = a := by
    rw [mul_assoc ha hb (inv_lt b), mul_comm hb (inv_lt b), mul_inv b hb hb0, mul_one a ha]
  rw [← h1, h, zero_mul]
theorem mul_cancel {a b c : Nat} (ha : a < 256) (hb : b < 256) (hc : c < 256) (h0 : c ≠ 0) (h : mul a c = mul b c) : a = b := by
  have key : ∀ x, x < 256 → mul (mul x c) (inv c) = x := fun x hx => by
    rw [mul_assoc hx hc (inv_lt c), mul_comm hc (inv_lt c), mul_inv c hc h0, mul_one x hx]
  rw [← key a ha, h, key b hb]
theorem pw_ne_zero {a : Nat} (ha : a < 256) (h0 : a ≠ 0) (n : Nat) : pw a n ≠ 0 := by
  induction n with
  | zero => show 1 ≠ 0; decide
  | succ n ih => exact fun h => ih (mul_eq_zero (pw_lt n) ha h h0)
theorem pw2_inj {i j : Nat} (hi : i < 255) (hj : j < 255) (h : pw 2 i = pw 2 j) : i = j := by
  have key : ∀ i j, i < j → j < 255 → pw 2 i ≠ pw 2 j := fun i j hij hj h => by
    have e : pw 2 j = mul (pw 2 (j - i)) (pw 2 i) := by rw [← pw_add (by decide)]; congr 1; omega
    have e1 : pw 2 i = mul 1 (pw 2 i) := (one_mul (pw_lt i)).symm
    rw [e] at h
    rw [e1] at h
    rw [one_mul (pw_lt i)] at h
    have h' : mul 1 (pw 2 i) = mul (pw 2 (j - i)) (pw 2 i) := by rw [one_mul (pw_lt i)]; exact h
    have := mul_cancel (by decide) (pw_lt _) (pw_lt i) (pw_ne_zero (by decide) (by decide) i) h'
    exact pw2_ne_one (j - i) (by omega) (by omega) this.symm
  rcases Nat.lt_trichotomy i j with h1 | h1 | h1
  · exact absurd h (key i j h1 hj)
  · exact h1
  · exact absurd h.symm (key j i h1 hi)
theorem lg_lt {a : Nat} (ha : a < 256) (h0 : a ≠ 0) : lg a < 255 := (lg_spec a ha h0).1
theorem pw_lg {a : Nat} (ha : a < 256) (h0 : a ≠ 0) : pw 2 (lg a) = a := (lg_spec a ha h0).2
theorem pw_mod {a : Nat} (ha : a < 256) (h0 : a ≠ 0) (n : Nat) : pw a (n % 255) = pw a n := by
  have e : pw a n = mul (pw a (n % 255)) (pw a (255 * (n / 255))) := by rw [← pw_add ha]; congr 1; omega
  have one : ∀ k, pw 1 k = 1 := fun k => by
    induction k with
    | zero => rfl
    | succ k ih => show mul (pw 1 k) 1 = 1; rw [ih]; rfl
  rw [e, pw_mul ha, pw_255 a ha h0, one, mul_one _ (pw_lt _)]
theorem lg_mul {a b : Nat} (ha : a < 256) (hb : b < 256) (a0 : a ≠ 0) (b0 : b ≠ 0) : lg (mul a b) = (lg a + lg b) % 255 := by
  have m0 : mul a b ≠ 0 := fun h => a0 (mul_eq_zero ha hb h b0)
  refine pw2_inj (lg_lt (mul_lt ha) m0) (Nat.mod_lt _ (by decide)) ?_
  rw [pw_lg (mul_lt ha) m0, pw_mod (by decide) (by decide), pw_add (by decide), pw_lg ha a0, pw_lg hb b0]
theorem pwI_add {a : Nat} (ha : a < 256) (h0 : a ≠ 0) (m n : Int) : pwI a (m + n) = mul (pwI a m) (pwI a n) := by
  have key : ∀ n : Int, pwI a n = pw a (n % 255).toNat := fun n => by
    unfold pwI
    rw [if_neg h0]
    split
    · rename_i h; subst h; rfl
    · rfl
  rw [key, key, key, ← pw_add ha, ← pw_mod ha h0 ((m % 255).toNat + (n % 255).toNat)]
  congr 1
  omega
theorem pwI_255 {a : Nat} (_ha : a < 256) (h0 : a ≠ 0) (m : Int) : pwI a (m + 255) = pwI a m := by
  have key : ∀ n : Int, pwI a n = pw a (n % 255).toNat := fun n => by
    unfold pwI
    rw [if_neg h0]
    split
    · rename_i h; subst h; rfl
    · rfl
  rw [key, key]
  congr 2
  omega
theorem pwI_lg {a : Nat} (ha : a < 256) (h0 : a ≠ 0) : pwI 2 (lg a : Int) = a := by
  have h1 := lg_lt ha h0
  have h2 := pw_lg ha h0
  unfold pwI
  split
  · rename_i h; have : lg a = 0 := by omega
    rw [this] at h2; exact h2
  · rw [if_neg (by decide), show ((lg a : Int) % 255).toNat = lg a by omega]; exact h2
end GF
