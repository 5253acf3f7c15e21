/- The walk of the reference's Apply. -/
import Derived.Test.YtpkgcklnknbbcaaM8
set_option linter.unusedVariables false
set_option linter.unusedSimpArgs false
set_option linter.unnecessarySimpa false
namespace Go.Proofs.Ytpkgcklnknbbcaa
open Go.RowKit

theorem wrap64_i64 (n : Int) : wrap64 n = IntKind.i64.wrap n := by rw [IntKind.wrap_i64, wrap64]

theorem bit_small : ∀ (v : Fin 16) (t : Fin 4), (bits .and .i64 ((v.val : Int) / 2 ^ t.val) 1 == 1) = hasBit (v.val : Int) (t.val : Int) := by decide +kernel
theorem pow_small : ∀ (t : Fin 4), IntKind.i64.wrap (2 ^ t.val) = 2 ^ t.val := by decide +kernel
theorem sub_small : ∀ (v : Fin 16) (t : Fin 4), wrap64 ((v.val : Int) - 2 ^ t.val) = (v.val : Int) - 2 ^ t.val := by decide +kernel
theorem bit_fact {p s v t : Int} (h : validB p s v = true) (h0 : 0 ≤ t) (ht : t < s) : (bits .and .i64 (v / 2 ^ t.toNat) 1 == 1) = hasBit v t := by
  obtain ⟨h1, h4, h2, h3⟩ := valid_bounds h
  have := allOf_le h1 h4
  have := bit_small ⟨v.toNat, by omega⟩ ⟨t.toNat, by omega⟩
  simp only [Int.toNat_of_nonneg h2, Int.toNat_of_nonneg h0] at this
  exact this
theorem pow_fact {p s v t : Int} (h : validB p s v = true) (h0 : 0 ≤ t) (ht : t < s) : IntKind.i64.wrap (2 ^ t.toNat) = 2 ^ t.toNat := by
  obtain ⟨h1, h4, h2, h3⟩ := valid_bounds h
  exact pow_small ⟨t.toNat, by omega⟩
theorem sub_fact {p s v t : Int} (h : validB p s v = true) (h0 : 0 ≤ t) (ht : t < s) : wrap64 (v - 2 ^ t.toNat) = v - 2 ^ t.toNat := by
  obtain ⟨h1, h4, h2, h3⟩ := valid_bounds h
  have := allOf_le h1 h4
  have := sub_small ⟨v.toNat, by omega⟩ ⟨t.toNat, by omega⟩
  simp only [Int.toNat_of_nonneg h2] at this
  exact this

theorem ret17 {x : St × Int} {w w' : World} {a : Act} (h : (results Try.f17 a.tmps).run Try.prog w' = .ok (.tuple #[stV x.1, .int .i64 x.2]) w') (hd : a.defers = []) (hb : Below w.heap.size w w') :
    bodyPost Try.prog Try.f17 (RetA x w) .ret a w' := bodyPost_ret h hd ⟨rfl, hb⟩




end Go.Proofs.Ytpkgcklnknbbcaa
