/- sort.partition_func with a closure that may lay blocks. -/
import Derived.Test.YtnhpjmjinchamaaSo1
import Derived.Sort.WalkC4
set_option linter.unusedVariables false
set_option linter.unusedSimpArgs false
set_option linter.unnecessarySimpa false
namespace Go.Proofs.Ytnhpjmjinchamaa
open Go Go.Shelf Go.RowKit Go.Lib
open Go.Sort (swp size_swp partLoop partition scanUp scanDown)
variable {P : Program} {ρ : Ren} {α : Type} [Inhabited α]



set_option maxHeartbeats 16000000 in
set_option maxRecDepth 100000 in
theorem part_x (L : LaysGg.n33 P ρ) (C : SC P α) (a b pivot : Nat) (d : Array α) (w : World) (h : At0 C w d) (hap : a ≤ pivot) (hpb : pivot < b) (hb : b ≤ C.n) :
    Calls P (ρ.f 33) #[.agg #[.func (.func C.g) #[] C.lb, .func (.func C.sf) #[] C.sb], .int .i64 a, .int .i64 b, .int .i64 pivot] w fun e w' => e = .returned (.tuple #[.int .i64 (partition C.lt d a b pivot).1, .bool (partition C.lt d a b pivot).2.1]) ∧ Sv C w (partition C.lt d a b pivot).2.2 w' := by
  (have mixed := L.mixed; have t0 := L.t0; have a0 := L.a0; have z0 := L.z0; have v0 := L.v0; have t3 := L.t3; have a3 := L.a3; have z3 := L.z3; have v3 := L.v3; have t4 := L.t4; have a4 := L.a4; have z4 := L.z4; have v4 := L.v4; have t26 := L.t26; have a26 := L.a26; have z26 := L.z26; have v26 := L.v26; have t37 := L.t37; have a37 := L.a37; have z37 := L.z37; have v37 := L.v37; have t44 := L.t44; have a44 := L.a44; have z44 := L.z44; have v44 := L.v44; have u44 := run_underlying L.t44; have eg := C.eg)
  have hn := C.hn
  have HB0 := Lib.hid (Bx.enter h (ρ.t 44))
  clear h
  (obtain ⟨w2, hs, hb2⟩ := (HB0).out.swap (x := (a : Int)) (y := (pivot : Int)) (i := a) (j := pivot) (by omega) (by omega) (by omega) (by omega); have HB1 := Lib.hid hb2; have s0 := hb2.b0; have s1 := hb2.b1; clear hb2)
  obtain ⟨i, hi⟩ : ∃ i : Nat, i = a + 1 := ⟨_, rfl⟩
  obtain ⟨j, hj⟩ : ∃ j : Nat, j = b - 1 := ⟨_, rfl⟩
  obtain ⟨dk, hdk⟩ : ∃ dk : Array α, dk = swp d a pivot := ⟨_, rfl⟩
  rw [← hdk] at HB1
  have hai : a < i := by omega
  have hij : i ≤ j + 1 := by omega
  have hjb : j < b := by omega
  have Hi := Lib.hid hi
  have Hj := Lib.hid hj
  have Hdk := Lib.hid hdk
  have hiz : (a : Int) + 1 = (i : Int) := by omega
  have hjz : (b : Int) - 1 = (j : Int) := by omega
  clear hi hj hdk
  go_enter L.f33, BodyGg.n33_ntmps ρ
  go_wp2
  clear hiz hjz hs s0 s1
  (go_loopw [10] (fun vi wq => ∃ i' : Nat, vi = .int .i64 i' ∧ i ≤ i' ∧ i' ≤ j + 1 ∧ Hid (Bx C w w.heap.size dk wq) ∧ Hid (scanUp (fun x => C.lt x dk[a]!) dk j i' = scanUp (fun x => C.lt x dk[a]!) dk j i)) (fun vi _ => j + 1 - (intOf vi).toNat)
   case atStart => exact ⟨i, rfl, Nat.le_refl _, hij, HB1, Lib.hid rfl⟩
   case round =>
     rename World => wq
     obtain ⟨i', rfl, hii, hij', HBQ, HSC⟩ := hrel
     have c0 := HBQ.out.b0
     have c1 := HBQ.out.b1
     by_cases hle : i' ≤ j
     · cases hlv : C.lt dk[i']! dk[a]! with
       | true =>
         go_wp2_with (first | ((go_at_fn C.g; (with_reducible refine ((HBQ).out.less (x := (i' : Int)) (y := (a : Int)) (i := i') (j := a) (by omega) (by omega) (by omega) (by omega) hlv).mono ?_); rintro e w1 ⟨rfl, hb1⟩; have HB3 := Lib.hid hb1; have d0 := hb1.b0; have d1 := hb1.b1; clear hb1)))
         go_roundw
         case rel => exact ⟨i' + 1, by go_num, by omega, by omega, HB3, Lib.hid ((scanUp_go (fun x => C.lt x dk[a]!) dk j i' hle hlv).symm.trans HSC.out)⟩
         case measure => simp [intOf]; omega
       | false =>
         have HI2 := Lib.hid ((scanUp_end (fun x => C.lt x dk[a]!) dk j i' (Or.inr hlv)).symm.trans HSC.out)
         go_wp2_with (first | ((go_at_fn C.g; (with_reducible refine ((HBQ).out.less (x := (i' : Int)) (y := (a : Int)) (i := i') (j := a) (by omega) (by omega) (by omega) (by omega) hlv).mono ?_); rintro e w1 ⟨rfl, hb1⟩; have HB3 := Lib.hid hb1; have d0 := hb1.b0; have d1 := hb1.b1; clear hb1)))
         clear d0 d1
         (go_loopw [11] (fun vj wz => ∃ j' : Nat, vj = .int .i64 j' ∧ j' ≤ j ∧ i' ≤ j' + 1 ∧ Hid (Bx C w w.heap.size dk wz) ∧ Hid (scanDown (fun x => !C.lt x dk[a]!) dk i' j' = scanDown (fun x => !C.lt x dk[a]!) dk i' j)) (fun vj _ => (intOf vj).toNat)
          case atStart => exact ⟨j, rfl, Nat.le_refl _, hij', HB3, Lib.hid rfl⟩
          case round =>
            rename World => wz
            clear c0 c1
            obtain ⟨j', rfl, hjj, hij2, HBZ, HSD⟩ := hrel
            have c0 := HBZ.out.b0
            have c1 := HBZ.out.b1
            by_cases hle2 : i' ≤ j'
            · ((cases hlv2 : C.lt dk[j']! dk[a]! with
                | false =>
                  go_wp2_with (first | ((go_at_fn C.g; (with_reducible refine ((HBZ).out.less (x := (j' : Int)) (y := (a : Int)) (i := j') (j := a) (by omega) (by omega) (by omega) (by omega) hlv2).mono ?_); rintro e w1 ⟨rfl, hb1⟩; have HB4 := Lib.hid hb1; have d0 := hb1.b0; have d1 := hb1.b1; clear hb1)))
                  go_roundw
                  case rel => exact ⟨j' - 1, by congr 1; omega, by omega, by omega, HB4, Lib.hid ((scanDown_go (fun x => !C.lt x dk[a]!) dk i' j' hle2 (by omega) (by simp [hlv2])).symm.trans HSD.out)⟩
                  case measure => simp [intOf]; omega
                | true =>
                  have HJ2 := Lib.hid ((scanDown_end (fun x => !C.lt x dk[a]!) dk i' j' (Or.inr (by simp [hlv2]))).symm.trans HSD.out)
                  have hlt3 := part_scans_lt C.lt a i j dk (by omega) HI2.out HJ2.out hle2
                  go_wp2_with (first | ((go_at_fn C.g; (with_reducible refine ((HBZ).out.less (x := (j' : Int)) (y := (a : Int)) (i := j') (j := a) (by omega) (by omega) (by omega) (by omega) hlv2).mono ?_); rintro e w1 ⟨rfl, hb1⟩; have HB4 := Lib.hid hb1; have d0 := hb1.b0; have d1 := hb1.b1; clear hb1); (obtain ⟨w2, hs, hb2⟩ := (HB4).out.swap (x := (i' : Int)) (y := (j' : Int)) (i := i') (j := j') (by omega) (by omega) (by omega) (by omega); have HB5 := Lib.hid hb2; have s0 := hb2.b0; have s1 := hb2.b1; clear hb2)))
                  ((rw [decide_eq_false (show ¬ j' < i' by omega)]
                    obtain ⟨I0, hI0⟩ : ∃ I0 : Nat, I0 = i' + 1 := ⟨_, rfl⟩
                    obtain ⟨J0, hJ0⟩ : ∃ J0 : Nat, J0 = j' - 1 := ⟨_, rfl⟩
                    obtain ⟨D0, hD0⟩ : ∃ D0 : Array α, D0 = swp dk i' j' := ⟨_, rfl⟩
                    have PF := Lib.hid (show partition C.lt d a b pivot = ((partLoop C.lt a I0 J0 D0).1, false, swp (partLoop C.lt a I0 J0 D0).2 (partLoop C.lt a I0 J0 D0).1 a) by
                      rw [hI0, hJ0, hD0]
                      exact part_first_go C.lt d a b pivot Hi.out Hj.out Hdk.out HI2.out HJ2.out (by omega))
                    go_loopw [10, 11] (fun vi vj wr => ∃ (i j : Nat) (dk : Array α), vi = .int .i64 i ∧ vj = .int .i64 j ∧ a < i ∧ i ≤ j + 1 ∧ j < b ∧ Hid (Bx C w w.heap.size dk wr) ∧ Hid (partLoop C.lt a i j dk = partLoop C.lt a I0 J0 D0)) (fun vi vj _ => (intOf vj).toNat + 1 - (intOf vi).toNat)
                    case atStart => exact ⟨i' + 1, j' - 1, swp dk i' j', by go_num, by congr 1; omega, by omega, by omega, by omega, HB5, Lib.hid (by rw [hI0, hJ0, hD0])⟩
                    case round =>
                      rename World => wr
                      clear hI0 hJ0 hD0 hs s0 s1 c0 c1 d0 d1 hlv hlv2 hlt3 hle hle2 hjj hij2 hii hij' hai hij hjb HI2 HJ2 HSD HSC Hi Hj Hdk
                      obtain ⟨i, j, dk, rfl, rfl, hai, hij, hjb, HB, AE⟩ := hrel
                      go_wp2
                      (go_loopw [10] (fun vi wq => ∃ i' : Nat, vi = .int .i64 i' ∧ i ≤ i' ∧ i' ≤ j + 1 ∧ Hid (Bx C w w.heap.size dk wq) ∧ Hid (scanUp (fun x => C.lt x dk[a]!) dk j i' = scanUp (fun x => C.lt x dk[a]!) dk j i)) (fun vi _ => j + 1 - (intOf vi).toNat)
                       case atStart => exact ⟨i, rfl, Nat.le_refl _, hij, HB, Lib.hid rfl⟩
                       case round =>
                         rename World => wq
                         obtain ⟨i', rfl, hii, hij', HBQ, HSC⟩ := hrel
                         have c0 := HBQ.out.b0
                         have c1 := HBQ.out.b1
                         by_cases hle : i' ≤ j
                         · cases hlv : C.lt dk[i']! dk[a]! with
                           | true =>
                             go_wp2_with (first | ((go_at_fn C.g; (with_reducible refine ((HBQ).out.less (x := (i' : Int)) (y := (a : Int)) (i := i') (j := a) (by omega) (by omega) (by omega) (by omega) hlv).mono ?_); rintro e w1 ⟨rfl, hb1⟩; have HB3 := Lib.hid hb1; have d0 := hb1.b0; have d1 := hb1.b1; clear hb1)))
                             go_roundw
                             case rel => exact ⟨i' + 1, by go_num, by omega, by omega, HB3, Lib.hid ((scanUp_go (fun x => C.lt x dk[a]!) dk j i' hle hlv).symm.trans HSC.out)⟩
                             case measure => simp [intOf]; omega
                           | false =>
                             have HI2 := Lib.hid ((scanUp_end (fun x => C.lt x dk[a]!) dk j i' (Or.inr hlv)).symm.trans HSC.out)
                             go_wp2_with (first | ((go_at_fn C.g; (with_reducible refine ((HBQ).out.less (x := (i' : Int)) (y := (a : Int)) (i := i') (j := a) (by omega) (by omega) (by omega) (by omega) hlv).mono ?_); rintro e w1 ⟨rfl, hb1⟩; have HB3 := Lib.hid hb1; have d0 := hb1.b0; have d1 := hb1.b1; clear hb1)))
                             clear d0 d1
                             (go_loopw [11] (fun vj wz => ∃ j' : Nat, vj = .int .i64 j' ∧ j' ≤ j ∧ i' ≤ j' + 1 ∧ Hid (Bx C w w.heap.size dk wz) ∧ Hid (scanDown (fun x => !C.lt x dk[a]!) dk i' j' = scanDown (fun x => !C.lt x dk[a]!) dk i' j)) (fun vj _ => (intOf vj).toNat)
                              case atStart => exact ⟨j, rfl, Nat.le_refl _, hij', HB3, Lib.hid rfl⟩
                              case round =>
                                rename World => wz
                                clear c0 c1
                                obtain ⟨j', rfl, hjj, hij2, HBZ, HSD⟩ := hrel
                                have c0 := HBZ.out.b0
                                have c1 := HBZ.out.b1
                                by_cases hle2 : i' ≤ j'
                                · ((cases hlv2 : C.lt dk[j']! dk[a]! with
                                    | false =>
                                      go_wp2_with (first | ((go_at_fn C.g; (with_reducible refine ((HBZ).out.less (x := (j' : Int)) (y := (a : Int)) (i := j') (j := a) (by omega) (by omega) (by omega) (by omega) hlv2).mono ?_); rintro e w1 ⟨rfl, hb1⟩; have HB4 := Lib.hid hb1; have d0 := hb1.b0; have d1 := hb1.b1; clear hb1)))
                                      go_roundw
                                      case rel => exact ⟨j' - 1, by congr 1; omega, by omega, by omega, HB4, Lib.hid ((scanDown_go (fun x => !C.lt x dk[a]!) dk i' j' hle2 (by omega) (by simp [hlv2])).symm.trans HSD.out)⟩
                                      case measure => simp [intOf]; omega
                                    | true =>
                                      have HJ2 := Lib.hid ((scanDown_end (fun x => !C.lt x dk[a]!) dk i' j' (Or.inr (by simp [hlv2]))).symm.trans HSD.out)
                                      have hlt3 := part_scans_lt C.lt a i j dk (by omega) HI2.out HJ2.out hle2
                                      go_wp2_with (first | ((go_at_fn C.g; (with_reducible refine ((HBZ).out.less (x := (j' : Int)) (y := (a : Int)) (i := j') (j := a) (by omega) (by omega) (by omega) (by omega) hlv2).mono ?_); rintro e w1 ⟨rfl, hb1⟩; have HB4 := Lib.hid hb1; have d0 := hb1.b0; have d1 := hb1.b1; clear hb1); (obtain ⟨w2, hs, hb2⟩ := (HB4).out.swap (x := (i' : Int)) (y := (j' : Int)) (i := i') (j := j') (by omega) (by omega) (by omega) (by omega); have HB5 := Lib.hid hb2; have s0 := hb2.b0; have s1 := hb2.b1; clear hb2)))
                                      ((go_roundw
                                        case rel => exact ⟨i' + 1, j' - 1, swp dk i' j', by go_num, by congr 1; omega, by omega, by omega, by omega, HB5, Lib.hid (by rw [← AE.out]; exact (part_go C.lt a i j dk HI2.out HJ2.out (by omega)).symm)⟩
                                        case measure => simp [intOf]; omega))))
                                · have HJ2 := Lib.hid ((scanDown_end (fun x => !C.lt x dk[a]!) dk i' j' (Or.inl hle2)).symm.trans HSD.out)
                                  (obtain ⟨w2, hs, hb2⟩ := (HBZ).out.swap (x := (j' : Int)) (y := (a : Int)) (i := j') (j := a) (by omega) (by omega) (by omega) (by omega); have HB5 := Lib.hid hb2; have s0 := hb2.b0; have s1 := hb2.b1; clear hb2)
                                  go_wp2
                                  go_ret2
                                  (((have e := part_break C.lt a i j dk HI2.out HJ2.out (by omega)
                                     rw [PF.out, ← AE.out, e]
                                     exact ⟨rfl, HB5.out.sv⟩))))
                         · have HI2 := Lib.hid ((scanUp_end (fun x => C.lt x dk[a]!) dk j i' (Or.inl hle)).symm.trans HSC.out)
                           go_wp2
                           (go_loopw [11] (fun vj wz => ∃ j' : Nat, vj = .int .i64 j' ∧ j' ≤ j ∧ i' ≤ j' + 1 ∧ Hid (Bx C w w.heap.size dk wz) ∧ Hid (scanDown (fun x => !C.lt x dk[a]!) dk i' j' = scanDown (fun x => !C.lt x dk[a]!) dk i' j)) (fun vj _ => (intOf vj).toNat)
                            case atStart => exact ⟨j, rfl, Nat.le_refl _, hij', HBQ, Lib.hid rfl⟩
                            case round =>
                              rename World => wz
                              clear c0 c1
                              obtain ⟨j', rfl, hjj, hij2, HBZ, HSD⟩ := hrel
                              have c0 := HBZ.out.b0
                              have c1 := HBZ.out.b1
                              by_cases hle2 : i' ≤ j'
                              · ((exfalso; omega))
                              · have HJ2 := Lib.hid ((scanDown_end (fun x => !C.lt x dk[a]!) dk i' j' (Or.inl hle2)).symm.trans HSD.out)
                                (obtain ⟨w2, hs, hb2⟩ := (HBZ).out.swap (x := (j' : Int)) (y := (a : Int)) (i := j') (j := a) (by omega) (by omega) (by omega) (by omega); have HB5 := Lib.hid hb2; have s0 := hb2.b0; have s1 := hb2.b1; clear hb2)
                                go_wp2
                                go_ret2
                                (((have e := part_break C.lt a i j dk HI2.out HJ2.out (by omega)
                                   rw [PF.out, ← AE.out, e]
                                   exact ⟨rfl, HB5.out.sv⟩)))))))))
            · have HJ2 := Lib.hid ((scanDown_end (fun x => !C.lt x dk[a]!) dk i' j' (Or.inl hle2)).symm.trans HSD.out)
              (obtain ⟨w2, hs, hb2⟩ := (HBZ).out.swap (x := (j' : Int)) (y := (a : Int)) (i := j') (j := a) (by omega) (by omega) (by omega) (by omega); have HB5 := Lib.hid hb2; have s0 := hb2.b0; have s1 := hb2.b1; clear hb2)
              go_wp2
              go_ret2
              (((have e := part_first_break C.lt d a b pivot Hi.out Hj.out Hdk.out HI2.out HJ2.out (by omega)
                 rw [e]
                 exact ⟨rfl, HB5.out.sv⟩))))
     · have HI2 := Lib.hid ((scanUp_end (fun x => C.lt x dk[a]!) dk j i' (Or.inl hle)).symm.trans HSC.out)
       go_wp2
       (go_loopw [11] (fun vj wz => ∃ j' : Nat, vj = .int .i64 j' ∧ j' ≤ j ∧ i' ≤ j' + 1 ∧ Hid (Bx C w w.heap.size dk wz) ∧ Hid (scanDown (fun x => !C.lt x dk[a]!) dk i' j' = scanDown (fun x => !C.lt x dk[a]!) dk i' j)) (fun vj _ => (intOf vj).toNat)
        case atStart => exact ⟨j, rfl, Nat.le_refl _, hij', HBQ, Lib.hid rfl⟩
        case round =>
          rename World => wz
          clear c0 c1
          obtain ⟨j', rfl, hjj, hij2, HBZ, HSD⟩ := hrel
          have c0 := HBZ.out.b0
          have c1 := HBZ.out.b1
          by_cases hle2 : i' ≤ j'
          · ((exfalso; omega))
          · have HJ2 := Lib.hid ((scanDown_end (fun x => !C.lt x dk[a]!) dk i' j' (Or.inl hle2)).symm.trans HSD.out)
            (obtain ⟨w2, hs, hb2⟩ := (HBZ).out.swap (x := (j' : Int)) (y := (a : Int)) (i := j') (j := a) (by omega) (by omega) (by omega) (by omega); have HB5 := Lib.hid hb2; have s0 := hb2.b0; have s1 := hb2.b1; clear hb2)
            go_wp2
            go_ret2
            (((have e := part_first_break C.lt d a b pivot Hi.out Hj.out Hdk.out HI2.out HJ2.out (by omega)
               rw [e]
               exact ⟨rfl, HB5.out.sv⟩)))))
end Go.Proofs.Ytnhpjmjinchamaa
