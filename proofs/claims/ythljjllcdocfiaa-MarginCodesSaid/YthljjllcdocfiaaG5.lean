/- Plain law of MarginMotion: a home in motion is as its target. -/
import Derived.Test.YthljjllcdocfiaaG4
set_option linter.unusedVariables false
set_option linter.unusedSimpArgs false
set_option linter.unnecessarySimpa false
namespace Go.Proofs.Ythljjllcdocfiaa
open Go

theorem or_bits {x y : Int} (hx : 0 ≤ x ∧ x < 16) (hy : 0 ≤ y ∧ y < 16) : ∃ z : Nat, bits .or .i64 x y = (z : Int) ∧ z < 16 ∧ ∀ i, bitI x i = true → bitI (z : Int) i = true := by
  obtain ⟨a, rfl⟩ : ∃ a : Nat, x = (a : Int) := ⟨x.toNat, by omega⟩
  obtain ⟨b, rfl⟩ : ∃ b : Nat, y = (b : Int) := ⟨y.toNat, by omega⟩
  refine ⟨a ||| b, bits_nat .or (· ||| ·) (.inl ⟨rfl, rfl⟩) a b (by omega) (by omega), ?_, fun i h => ?_⟩
  · exact Nat.or_lt_two_pow (n := 4) (by omega) (by omega)
  · rw [bitI_nat] at h ⊢
    rw [Nat.testBit_or, h]
    rfl
/-- the margin without the home is the margin with it -/
theorem motion_same {l : List Cp} {h t : Cp} (hf : t.1 = h.1) (hs : ∀ i, bitI h.2.2 i = true → bitI t.2.2 i = true) (n : Nat) : leastN (l ++ [h, t]) n = leastN (l ++ [t]) n := by
  refine Nat.le_antisymm (least_mono (fun s f hg => ?_) n) (least_mono (fun s f hg => ?_) n)
  · obtain ⟨c, hc, h1, h2⟩ := good_iff.1 hg
    rw [List.mem_append] at hc
    rcases hc with hc | hc
    · exact good_iff.2 ⟨c, List.mem_append.2 (.inl hc), h1, h2⟩
    · simp at hc
      rcases hc with rfl | rfl
      · exact good_iff.2 ⟨t, by simp, by rw [hf]; exact h1, hs _ h2⟩
      · exact good_iff.2 ⟨c, by simp, h1, h2⟩
  · exact good_sub (fun c hc => by simp at hc ⊢; rcases hc with hc | hc <;> simp [hc]) s f hg
/-- losing the home loses nothing -/
theorem motion_loss {l : List Cp} {h t : Cp} {b : Int} (hl : ∀ c ∈ l, c.2.1 ≠ b) (hh : h.2.1 = b) (ht : t.2.1 ≠ b) : withoutL (l ++ [h, t]) [b] = l ++ [t] := by
  unfold withoutL hasI
  rw [List.filter_append]
  congr 1
  · rw [List.filter_eq_self]
    intro c hc
    have := hl c hc
    simp [this]
  · simp [hh, ht]
end Go.Proofs.Ythljjllcdocfiaa
