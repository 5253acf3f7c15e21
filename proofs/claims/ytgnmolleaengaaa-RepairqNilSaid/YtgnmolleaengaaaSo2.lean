/- sort.insertionSort_func with a closure that may lay blocks. -/
import Derived.Test.YtgnmolleaengaaaSo1
set_option linter.unusedVariables false
set_option linter.unusedSimpArgs false
set_option linter.unnecessarySimpa false
namespace Go.Proofs.Ytgnmolleaengaaa
open Go Go.Shelf Go.RowKit Go.Lib
open Go.Sort (swp size_swp insOuter insInner)
variable {P : Program} {ρ : Ren} {α : Type} [Inhabited α]


set_option maxHeartbeats 4000000 in
set_option maxRecDepth 100000 in
theorem insertion_x (L : LaysGg.n26 P ρ) (C : SC P α) (a b : Nat) (d : Array α) (w : World) (h : At0 C w d) (hab : a ≤ b) (hb : b ≤ C.n) :
    Calls P (ρ.f 26) #[.agg #[.func (.func C.g) #[C.p] #[], .func (.func C.sf) #[] C.sb], .int .i64 a, .int .i64 b] w fun e w' => e = .returned (.tuple #[]) ∧ Sv C w (Go.Sort.insertionSort C.lt d a b) w' := by
  (have mixed := L.mixed; have t0 := L.t0; have a0 := L.a0; have z0 := L.z0; have v0 := L.v0; have t3 := L.t3; have a3 := L.a3; have z3 := L.z3; have v3 := L.v3; have t4 := L.t4; have a4 := L.a4; have z4 := L.z4; have v4 := L.v4; have t26 := L.t26; have a26 := L.a26; have z26 := L.z26; have v26 := L.v26; have t37 := L.t37; have a37 := L.a37; have z37 := L.z37; have v37 := L.v37; have t44 := L.t44; have a44 := L.a44; have z44 := L.z44; have v44 := L.v44; have u44 := run_underlying L.t44; have eg := C.eg)
  have hn := C.hn
  have HB0 := Lib.hid (Bx.enter h (ρ.t 44))
  clear h
  go_enter L.f26, BodyGg.n26_ntmps ρ
  go_wp2
  go_loopw [6] (fun vi wr => ∃ (i : Nat) (dk : Array α), vi = .int .i64 i ∧ a < i ∧ i ≤ b + 1 ∧ Hid (Bx C w w.heap.size dk wr) ∧ Hid (insOuter C.lt a b i dk = insOuter C.lt a b (a + 1) d)) (fun vi _ => b + 1 - (intOf vi).toNat)
  case atStart => exact ⟨a + 1, d, by go_num, by omega, by omega, HB0, Lib.hid rfl⟩
  case round =>
    rename World => wr
    obtain ⟨i, dk, rfl, hai, hib, HB, HO⟩ := hrel
    by_cases hlt : i < b
    · go_wp2
      go_loopw [7] (fun vj wq => ∃ (j : Nat) (dj : Array α), vj = .int .i64 j ∧ a ≤ j ∧ j ≤ i ∧ Hid (Bx C w w.heap.size dj wq) ∧ Hid (insInner C.lt a j dj = insInner C.lt a i dk)) (fun vj _ => (intOf vj).toNat)
      case atStart => exact ⟨i, dk, rfl, by omega, Nat.le_refl _, HB, Lib.hid rfl⟩
      case round =>
        rename World => wq
        obtain ⟨j, dj, rfl, haj, hji, HBJ, HI⟩ := hrel
        have c0 := HBJ.out.b0
        have c1 := HBJ.out.b1
        have OUT : ∀ we, Hid (Bx C w w.heap.size dj we) → (j ≤ a ∨ C.lt dj[j]! dj[j - 1]! = false) → ∃ (i' : Nat) (dk' : Array α), Value.int .i64 ((i : Int) + 1) = .int .i64 (i' : Nat) ∧ a < i' ∧ i' ≤ b + 1 ∧ Hid (Bx C w w.heap.size dk' we) ∧ Hid (insOuter C.lt a b i' dk' = insOuter C.lt a b (a + 1) d) := fun we hw hs =>
          ⟨i + 1, dj, by go_num, by omega, by omega, hw, Lib.hid (by rw [← HO.out, insOuter_go _ _ _ _ _ hlt, ← HI.out, insInner_stop _ _ _ _ hs])⟩
        have OUT := Lib.hid OUT
        by_cases hja : a < j
        · cases hlv : C.lt dj[j]! dj[j - 1]! with
          | true =>
            have hl := HBJ.out.less (x := (j : Int)) (y := (j : Int) - 1) (i := j) (j := j - 1) rfl (by omega) (by omega) (by omega) hlv
            go_wp2_with (go_at_fn C.g; refine hl.mono ?_; rintro e w1 ⟨rfl, hb1⟩; have d0 := hb1.b0; have d1 := hb1.b1; obtain ⟨w2, hs, hb2⟩ := hb1.swap (x := (j : Int)) (y := (j : Int) - 1) (i := j) (j := j - 1) rfl (by omega) (by omega) (by omega); have HB2 := Lib.hid hb2; clear hb1 hb2)
            go_roundw
            case rel => exact ⟨j - 1, swp dj j (j - 1), by congr 1; omega, by omega, by omega, HB2, Lib.hid (by rw [← HI.out, insInner_go C.lt a j dj hja hlv])⟩
            case measure => simp [intOf]; omega
          | false =>
            have hl := HBJ.out.less (x := (j : Int)) (y := (j : Int) - 1) (i := j) (j := j - 1) rfl (by omega) (by omega) (by omega) hlv
            go_wp2_with (go_at_fn C.g; refine hl.mono ?_; rintro e w1 ⟨rfl, hb1⟩; have HB1 := Lib.hid hb1; clear hb1)
            go_roundw
            case rel => exact OUT.out _ HB1 (Or.inr hlv)
            case measure => simp [intOf]; omega
        · go_wp2
          go_roundw
          case rel => exact OUT.out _ HBJ (Or.inl (by omega))
          case measure => simp [intOf]; omega
    · go_wp2
      go_end0
      refine ⟨rfl, ?_⟩
      have e : Go.Sort.insertionSort C.lt d a b = dk := by
        unfold Go.Sort.insertionSort
        rw [← HO.out, insOuter_stop C.lt a b i dk hlt]
      rw [e]
      exact HB.out.sv
end Go.Proofs.Ytgnmolleaengaaa
