/- Walks: pick of slices, Grow, Concat. -/
import Derived.Test.YthljjllcdocfiaaC2
import Derived.Lib.AppendZeros
import Derived.Laws.OwnMore
set_option linter.unusedVariables false
set_option linter.unusedSimpArgs false
set_option linter.unnecessarySimpa false
namespace Go.Proofs.Ythljjllcdocfiaa
open Go Go.RowKit Go.MapKept

/-- an own slice, made shorter -/
theorem Ow.shrink {α : Type} {E : Enc α} {e : TypeId} {w0 w : World} {a : Addr} {n c : Nat} {l : List α} (h : Ow E e w0 w (.slice (some a) n c) l) {k : Nat} (hk : k ≤ n) : Ow E e w0 w (.slice (some a) k c) (l.take k) := by
  obtain rfl : n = l.length := by obtain ⟨a', cp, q⟩ := h.val; cases q; rfl
  have hl : (l.take k).length = k := by simp; omega
  refine ⟨h.below, ⟨by rw [flat_len], ?_⟩, fun t ht => by cases ht⟩
  rcases h.row.2 with ⟨h0, _⟩ | ⟨g, cap, cur, he, hB, hg, h1, h2, h3, h4⟩
  · cases h0
  · cases he
    refine .inr ⟨g, c, cur, by rw [hl], hB, hg, by rw [hl]; omega, h2, h3, ?_⟩
    rw [hl, flat_take, ← h4, List.take_take, Nat.min_eq_left (Nat.mul_le_mul_right _ hk)]

theorem zeros_run (w : World) (n : Nat) (h0 : 0 < n) (hn : n ≤ 10000) (ty : TypeId) : ∃ g cap w', (Builtin.append_ #[31, 3] ty #[.slice none 0 0, .int .i64 n]).run Try.prog w = .ok (.slice (some ⟨g, 0, none⟩) n cap) w' ∧ Ow eI 3 w w' (.slice (some ⟨g, 0, none⟩) n cap) (List.replicate n 0) := by
  obtain ⟨i, hi, hz, hsz, hby⟩ := info_parts info3
  have hr := Lib.run_append_nil_zeros (P := Try.prog) w 31 3 ty 3 i (.int .i64 0) .i64 .i64 Try.underlying31 Try.underlying3 hi hz n h0 (by omega) (by omega) (by rw [hby]; omega)
  have hge := grownCap_ge w n 0 3
  have hcm := grownCap_le_maxLen w n 0 3 (by unfold maxLen; omega)
  have zc : ∀ m, Builtin.zeroCells (Value.int IntKind.i64 0).cells m = (List.replicate m (Value.int .i64 0)).toArray := by
    intro m
    show Builtin.zeroCells #[.int .i64 0] m = _
    unfold Builtin.zeroCells
    apply Array.ext
    · simp
    · intro i h1 h2
      simp [Nat.mod_one]
  refine ⟨_, _, _, hr, (Below.refl w.heap.size w).drew.alloc (Nat.le_refl _) _, ⟨by rw [flat_len], .inr ⟨w.heap.size, _, _, by rw [List.length_replicate], Nat.le_refl _, heap_alloc_new w.drew _, by rw [List.length_replicate]; exact hge, hcm, ?_, ?_⟩⟩, fun t ht => by cases ht⟩
  · rw [zc, zc]
    simp [eI]
    omega
  · rw [zc, zc]
    simp [eI, Enc.flat, flat_map1]
end Go.Proofs.Ythljjllcdocfiaa
