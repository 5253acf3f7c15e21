/- sort.Slice of sets by their order. -/
import Derived.Test.YthljjllcdocfiaaB4
set_option linter.unusedVariables false
set_option linter.unusedSimpArgs false
set_option linter.unnecessarySimpa false
namespace Go.Proofs.Ythljjllcdocfiaa
open Go Go.RowKit Go.MapKept

theorem still {P : Program} {f : FuncId} {args : Array Value} {w : World} {v : Value} (h : Calls P f args w fun e w' => e = .returned v ∧ w = w') :
    Calls P f args w fun e w' => e = .returned v ∧ w' = w := h.mono fun _ _ ⟨a, b⟩ => ⟨a, b.symm⟩
set_option maxHeartbeats 2000000 in
theorem less_closure {W : World} {b g n c : Nat} {i k : Nat} {xa ya : Option Addr} {xn xc yn yc : Nat} {x y : List Int} (h13 : W.cell? ⟨b, 0, none⟩ = some (.slice (some ⟨g, 0, none⟩) n c)) (hi : i < n) (hk : k < n) (hn : n ≤ 1000000)
    (ci : W.cell? ⟨g, i, none⟩ = some (.slice xa xn xc)) (ck : W.cell? ⟨g, k, none⟩ = some (.slice ya yn yc)) (hx : Rd eI W (.slice xa xn xc) x) (hy : Rd eI W (.slice ya yn yc) y) {q : Bool} (hq : lessL x y = q) :
    Calls Try.prog 39 #[.int .i64 i, .int .i64 k, .pointer (some ⟨b, 0, none⟩)] W fun e w' => e = .returned (.bool q) ∧ ∃ z, w' = W.drewN z := by
  have K := Lib.hid (fun z : Nat => before_as _ _ x y (W.drewN z) (hx.keep (below_drewN (Below.refl _ _) z)) (hy.keep (below_drewN (Below.refl _ _) z)) hq)
  have hi2 : (i : Int) < n := by omega
  have hk2 : (k : Int) < n := by omega
  clear hx hy
  go_enter Try.func39, Try.ntmps39
  go_wp2_with fail
  go_quiet (exact Calls.quiet_of_same (still (K.out _)))
  go_wp2_with fail
  go_ret
  exact ⟨rfl, _, rfl⟩
end Go.Proofs.Ythljjllcdocfiaa
