/- sort.SliceStable of a short row by a method value that lays blocks. -/
import Derived.Test.YtgnmolleaengaaaGreatSo2
import Derived.Test.YtgnmolleaengaaaGreatSh
import Derived.Test.YtgnmolleaengaaaGreatQc
set_option linter.unusedVariables false
set_option linter.unusedSimpArgs false
set_option linter.unnecessarySimpa false
namespace Go.Proofs.YtgnmolleaengaaaGreat
open Go Go.Shelf Go.RowKit Go.Lib
open Go.Sort (HoldsK putRowK)
variable {α : Type} [Inhabited α]

theorem ins59 (C : SC Tryz.prog α) (b : Nat) (d : Array α) (w : World) (h : At0 C w d) (hb : b ≤ C.n) :
    Calls Tryz.prog 90 #[.agg #[.func (.func C.g) #[C.p] #[], .func (.func C.sf) #[] C.sb], .int .i64 0, .int .i64 b] w fun e w' => e = .returned (.tuple #[]) ∧ Sv C w (Go.Sort.insertionSort C.lt d 0 b) w' := by
  have := insertion_x (P := Tryz.prog) (ρ := slice6_ren) { slice6 with } C 0 b d w h (Nat.zero_le _) hb
  exact this

set_option maxRecDepth 20000 in
set_option maxHeartbeats 1000000 in
theorem stable_x (C : SC Tryz.prog α) (d : Array α) (w : World) (h : At0 C w d) (hn : C.n < 20) :
    Calls Tryz.prog 63 #[.agg #[.func (.func C.g) #[C.p] #[], .func (.func C.sf) #[] C.sb], .int .i64 C.n] w fun e w' => e = .returned (.tuple #[]) ∧ Sv C w (Go.Sort.insertionSort C.lt d 0 C.n) w' := by
  have hba := below_alloc w (.cells #[.func (.func C.g) #[C.p] #[], .func (.func C.sf) #[] C.sb] 104)
  have HC := Lib.hid (ins59 C C.n d _ (h.grow hba) (Nat.le_refl _))
  have HA := Lib.hid h
  have HB := Lib.hid hba
  obtain ⟨n, hnn⟩ : ∃ n, C.n = n := ⟨_, rfl⟩
  rw [hnn] at hn HC ⊢
  clear h hba hnn
  go_enter Tryz.func63, Tryz.ntmps63
  go_wp2_with fail
  refine wp_loop_rounds 1 ?_
  rw [rounds_succ]
  go_wp2_with (go_at_call 90; (with_reducible refine HC.out.mono ?_); rintro e w2 ⟨rfl, hs⟩; have HS := Lib.hid hs; clear hs)
  refine wp_loop_rounds 1 ?_
  rw [rounds_succ]
  go_wp2_with fail
  go_end0
  exact ⟨rfl, ((Sv.start HA.out).grow HB.out).trans HS.out⟩

noncomputable def siT : TypeInfo := (Tryz.prog.info? 66).get (by kernel_rfl)
noncomputable def siE : TypeInfo := (Tryz.prog.info? 76).get (by kernel_rfl)
end Go.Proofs.YtgnmolleaengaaaGreat
