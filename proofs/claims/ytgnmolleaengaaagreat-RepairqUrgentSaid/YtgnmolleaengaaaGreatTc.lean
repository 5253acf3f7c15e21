/- The walks of in, and of Running, Jobs and Schedule at the law's state. -/
import Derived.Test.YtgnmolleaengaaaGreatTb
set_option linter.unusedVariables false
set_option linter.unusedSimpArgs false
set_option linter.unnecessarySimpa false
namespace Go.Proofs.YtgnmolleaengaaaGreat
open Go Go.RowKit

set_option maxRecDepth 20000 in
set_option maxHeartbeats 2000000 in
theorem in_as {w : World} {v : Value} {L : List Ky} (k : Ky) (h : Rd eK w v L) {r : Bool} (hr : decide (k ∈ L) = r) : Calls Tryz.prog 24 #[v, kv k] w fun e w' => e = .returned (.bool r) ∧ Below w.heap.size w w' := by
  obtain ⟨a, cap, rfl, hlen⟩ := h.open
  obtain ⟨n, hn⟩ : ∃ n, L.length = n := ⟨_, rfl⟩
  have HN := Lib.hid hn
  rw [hn] at hlen h ⊢
  have hba := below_alloc w (.cells #[.int .i64 k.1, .int .i64 k.2] 33)
  have HBA := Lib.hid hba
  have HBX := Lib.hid (Holds.new w #[.int .i64 k.1, .int .i64 k.2] 33)
  have H := Lib.hid (h.keep hba)
  have HR := Lib.hid hr
  obtain ⟨k1, k2⟩ := k
  obtain ⟨c0, c1, -⟩ := HBX.out.lay2
  clear h hn hr hba
  go_enter Tryz.func24, Tryz.ntmps24
  go_wp2_with fail
  change Hid (Below w.heap.size w (w.alloc (.cells #[.int .i64 k1, .int .i64 k2] 33))) at HBA
  change (w.alloc (.cells #[.int .i64 k1, .int .i64 k2] 33)).cell? ⟨w.heap.size, 0, none⟩ = some (.int .i64 k1) at c0
  change (w.alloc (.cells #[.int .i64 k1, .int .i64 k2] 33)).cell? ⟨w.heap.size, 1, none⟩ = some (.int .i64 k2) at c1
  change Hid (Rd eK (w.alloc (.cells #[.int .i64 k1, .int .i64 k2] 33)) (.slice a n cap) L) at H
  generalize w.alloc (.cells #[.int .i64 k1, .int .i64 k2] 33) = W at HBA c0 c1 H HBX ⊢
  clear HBX
  have C0 := Lib.hid c0
  have C1 := Lib.hid c1
  clear c0 c1
  go_loopw [5] (fun s wr => ∃ i q : Nat, i ≤ n ∧ s = .int .i64 i ∧ wr = W.drewN q ∧ Hid (∀ x ∈ L.take i, x ≠ (k1, k2))) (fun s _ => n - (intOf s).toNat)
  case atStart => exact ⟨0, 0, by omega, rfl, rfl, Lib.hid (by simp)⟩
  case round =>
    obtain ⟨i, q, hi, rfl, rfl, HP⟩ := hrel
    by_cases hin : i < n
    · obtain ⟨x, hx⟩ : ∃ l, L[i]? = some l := ⟨L[i]'(by have := HN.out; omega), by simp⟩
      obtain ⟨b, off, rfl, hb, a0, a1⟩ := H.out.key hx
      have c0 := C0.out
      have c1 := C1.out
      have HX := Lib.hid hx
      obtain ⟨x1, x2⟩ := x
      cases hd : decide ((x1, x2) = ((k1, k2) : Ky)) with
      | true =>
        have hq : ∀ w, (binOp .eql 33 (.agg #[.int .i64 x1, .int .i64 x2]) (.agg #[.int .i64 k1, .int .i64 k2])).run Tryz.prog w = .ok (.bool true) w := fun w => (eql_kv (x1, x2) (k1, k2) w).trans (by rw [hd])
        have HD := Lib.hid (of_decide_eq_true hd)
        clear hx hb hd
        go_wp2_with fail
        go_quiet (fail)
        go_wp2_with fail
        go_ret
        exact ⟨ret_bool (by rw [← HR.out]; rw [decide_eq_true]; rw [← HD.out]; exact List.mem_of_getElem? HX.out), below_drewN (below_drewN HBA.out _) _⟩
      | false =>
        have hq : ∀ w, (binOp .eql 33 (.agg #[.int .i64 x1, .int .i64 x2]) (.agg #[.int .i64 k1, .int .i64 k2])).run Tryz.prog w = .ok (.bool false) w := fun w => (eql_kv (x1, x2) (k1, k2) w).trans (by rw [hd])
        have HD := Lib.hid (of_decide_eq_false hd)
        clear hx hb hd
        go_wp2_with fail
        go_quiet (fail)
        go_wp2_with fail
        go_roundw
        case rel =>
          refine ⟨i + 1, q + nq, by omega, by go_num, rfl, Lib.hid fun y hy => ?_⟩
          rw [take_snoc HX.out] at hy
          rcases List.mem_append.1 hy with hy | hy
          · exact HP.out y hy
          · rw [List.mem_singleton.1 hy]; exact HD.out
        case measure => simp [intOf]; omega
    · obtain rfl : i = n := by omega
      go_wp2_with fail
      go_ret
      exact ⟨ret_bool (by rw [← HR.out, decide_eq_false]; intro hm; exact HP.out _ (by rw [← HN.out, List.take_length]; exact hm) rfl), below_drewN HBA.out _⟩
end Go.Proofs.YtgnmolleaengaaaGreat
