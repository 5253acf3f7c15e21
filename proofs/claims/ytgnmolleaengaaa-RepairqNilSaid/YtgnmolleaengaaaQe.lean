/- The order of jobs, plain. -/
import Derived.Test.YtgnmolleaengaaaQd
set_option linter.unusedVariables false
set_option linter.unusedSimpArgs false
set_option linter.unnecessarySimpa false
namespace Go.Proofs.Ytgnmolleaengaaa
open Go

/-- the risk in twelfths -/
def rk (j : Jb) : Nat := j.n * (12 / j.d)
theorem four_of {d : Nat} (h1 : 1 ≤ d) (h2 : d ≤ 4) : d = 1 ∨ d = 2 ∨ d = 3 ∨ d = 4 := by omega
theorem rk_lt {a b : Jb} (ha : OkJ a) (hb : OkJ b) : a.n * b.d < b.n * a.d ↔ rk a < rk b := by
  obtain ⟨-, -, -, -, -, a1, a2⟩ := ha
  obtain ⟨-, -, -, -, -, b1, b2⟩ := hb
  unfold rk
  rcases four_of a1 a2 with h | h | h | h <;> rcases four_of b1 b2 with h' | h' | h' | h' <;> rw [h, h'] <;> simp only [Nat.reduceDiv] <;> omega
def Lx (a b : Jb) : Prop := a.cls < b.cls ∨ a.cls = b.cls ∧ (rk b < rk a ∨ rk b = rk a ∧ (a.rem < b.rem ∨ a.rem = b.rem ∧ (a.vol < b.vol ∨ a.vol = b.vol ∧ a.frag < b.frag)))
theorem lt_iff {a b : Jb} (ha : OkJ a) (hb : OkJ b) : ordJ a b < 0 ↔ Lx a b := by
  have h1 := rk_lt ha hb
  have h2 := rk_lt hb ha
  unfold ordJ cmpJ Lx
  generalize a.n * b.d = P at *
  generalize b.n * a.d = Q at *
  generalize rk a = x at *
  generalize rk b = y at *
  split
  · omega
  · rename_i e1
    by_cases e2 : Q < P
    · simp [e2]
      omega
    · by_cases e3 : P < Q
      · simp [e2, e3]
        omega
      · simp only [e2, e3, if_false]
        rw [if_neg (by omega)]
        split
        · omega
        · split
          · omega
          · omega
theorem ltE_iff {x y : En} (hx : OkJ x.j) (hy : OkJ y.j) : ltE x y = true ↔ Lx x.j y.j := by
  unfold ltE
  rw [decide_eq_true_eq]
  exact lt_iff hx hy
theorem Lx.irr (a : Jb) : ¬ Lx a a := by unfold Lx; omega
theorem Lx.trans {a b c : Jb} (h : Lx a b) (h' : Lx b c) : Lx a c := by unfold Lx at *; omega
theorem Lx.total {a b : Jb} (h : (a.vol, a.frag) ≠ (b.vol, b.frag)) : Lx a b ∨ Lx b a := by
  unfold Lx
  have : ¬ (a.vol = b.vol ∧ a.frag = b.frag) := fun e => h (by rw [e.1, e.2])
  omega
theorem Lx.asymm {a b : Jb} (h : Lx a b) : ¬ Lx b a := by unfold Lx at *; omega
/-- equivalence is transitive -/
theorem Lx.eqv {a b c : Jb} (h1 : ¬ Lx a b) (h2 : ¬ Lx b c) : ¬ Lx a c := by unfold Lx at *; omega
end Go.Proofs.Ytgnmolleaengaaa
