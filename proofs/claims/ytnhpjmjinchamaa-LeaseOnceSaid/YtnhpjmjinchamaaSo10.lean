/- sort.partialInsertionSort_func with a closure that may lay blocks. -/
import Derived.Test.YtnhpjmjinchamaaSo1
import Derived.Sort.WalkA6
set_option linter.unusedVariables false
set_option linter.unusedSimpArgs false
set_option linter.unnecessarySimpa false
namespace Go.Proofs.Ytnhpjmjinchamaa
open Go Go.Shelf Go.RowKit Go.Lib
open Go.Sort (swp size_swp partialIns partialInsertionSort scanSorted shiftDown shiftUp fixDown fixUp)
variable {P : Program} {ρ : Ren} {α : Type} [Inhabited α]



set_option maxHeartbeats 16000000 in
set_option maxRecDepth 1000000 in
theorem partial_x (L : LaysGg.n31 P ρ) (C : SC P α) (a b : Nat) (d : Array α) (w : World) (h : At0 C w d) (hab : a < b) (hb : b ≤ C.n) :
    Calls P (ρ.f 31) #[.agg #[.func (.func C.g) #[] C.lb, .func (.func C.sf) #[] C.sb], .int .i64 a, .int .i64 b] w fun e w' => e = .returned (.bool (partialInsertionSort C.lt d a b).2) ∧ Sv C w (partialInsertionSort C.lt d a b).1 w' := by
  (have mixed := L.mixed; have t0 := L.t0; have a0 := L.a0; have z0 := L.z0; have v0 := L.v0; have t3 := L.t3; have a3 := L.a3; have z3 := L.z3; have v3 := L.v3; have t4 := L.t4; have a4 := L.a4; have z4 := L.z4; have v4 := L.v4; have t26 := L.t26; have a26 := L.a26; have z26 := L.z26; have v26 := L.v26; have t37 := L.t37; have a37 := L.a37; have z37 := L.z37; have v37 := L.v37; have t44 := L.t44; have a44 := L.a44; have z44 := L.z44; have v44 := L.v44; have u44 := run_underlying L.t44; have eg := C.eg)
  have hn := C.hn
  have HB0 := Lib.hid (Bx.enter h (ρ.t 44))
  clear h
  go_enter L.f31, BodyGg.n31_ntmps ρ
  go_wp2
  go_loopw [7, 8] (fun vi vs wr => ∃ (i s : Nat) (dk : Array α), vi = .int .i64 i ∧ vs = .int .i64 s ∧ s ≤ 5 ∧ a < i ∧ i ≤ b ∧ Hid (Bx C w w.heap.size dk wr) ∧ Hid (partialIns C.lt a b (5 - s) i dk = partialIns C.lt a b 5 (a + 1) d)) (fun _ vs _ => 5 - (intOf vs).toNat)
  case atStart => exact ⟨a + 1, 0, d, by go_num, rfl, by omega, by omega, by omega, HB0, Lib.hid rfl⟩
  case round =>
    rename World => wr
    obtain ⟨i, s, dk, rfl, rfl, hs5, hai, hib, HB, HO⟩ := hrel
    by_cases hsl : s < 5
    · have hsz5 : (s : Int) < 5 := by omega
      go_wp2
      go_loopw [7] (fun vi wq => ∃ kx : Nat, vi = .int .i64 kx ∧ i ≤ kx ∧ kx ≤ b ∧ Hid (Bx C w w.heap.size dk wq) ∧ Hid (scanSorted C.lt dk b kx = scanSorted C.lt dk b i)) (fun vi _ => b - (intOf vi).toNat)
      case atStart => exact ⟨i, rfl, Nat.le_refl _, hib, HB, Lib.hid rfl⟩
      case round =>
        rename World => wq
        obtain ⟨kx, rfl, hik, hkb, HBQ, HSc⟩ := hrel
        have c0 := HBQ.out.b0
        have c1 := HBQ.out.b1
        by_cases hkb' : kx < b
        · have hkz : (kx : Int) < (b : Int) := by omega
          cases hlv : C.lt dk[kx]! dk[kx - 1]! with
          | false =>
            go_wp2_with (first | ((go_at_fn C.g; (with_reducible refine ((HBQ).out.less (x := (kx : Int)) (y := ((kx : Int) - 1)) (i := kx) (j := (kx - 1)) (by omega) (by omega) (by omega) (by omega) hlv).mono ?_); rintro e w1 ⟨rfl, hb1⟩; have HB3 := Lib.hid hb1; have d0 := hb1.b0; have d1 := hb1.b1; clear hb1)))
            go_roundw
            case rel => exact ⟨kx + 1, by go_num, by omega, by omega, HB3, Lib.hid (by rw [← HSc.out, scanSorted_go C.lt dk b kx hkb' hlv])⟩
            case measure => simp [intOf]; omega
          | true =>
            have HK := Lib.hid (show scanSorted C.lt dk b i = kx by rw [← HSc.out, scanSorted_stop C.lt dk b kx (Or.inr hlv)])
            have hkne : ((kx : Int) == (b : Int)) = false := beq_eq_false_iff_ne.2 (by omega)
            by_cases h50 : b - a < 50
            · have h50z : (b : Int) - (a : Int) < 50 := by omega
              go_wp2_with (first | ((go_at_fn C.g; (with_reducible refine ((HBQ).out.less (x := (kx : Int)) (y := ((kx : Int) - 1)) (i := kx) (j := (kx - 1)) (by omega) (by omega) (by omega) (by omega) hlv).mono ?_); rintro e w1 ⟨rfl, hb1⟩; have HB3 := Lib.hid hb1; have d0 := hb1.b0; have d1 := hb1.b1; clear hb1)))
              have hv : partialInsertionSort C.lt d a b = (dk, false) := by
                unfold partialInsertionSort
                rw [← HO.out, pi_short C.lt a b s i dk hsl (by rw [HK.out]; omega) h50]
              rw [hv]
              go_ret
              exact ⟨rfl, HB3.out.sv⟩
            · have h50z : ¬ ((b : Int) - (a : Int) < 50) := by omega
              by_cases hka : kx - a ≥ 2
              · have hkaz : (2 : Int) ≤ (kx : Int) - (a : Int) := by omega
                go_wp2_with (first | ((go_at_fn C.g; (with_reducible refine ((HBQ).out.less (x := (kx : Int)) (y := ((kx : Int) - 1)) (i := kx) (j := (kx - 1)) (by omega) (by omega) (by omega) (by omega) hlv).mono ?_); rintro e w1 ⟨rfl, hb1⟩; have HB3 := Lib.hid hb1; have d0 := hb1.b0; have d1 := hb1.b1; clear hb1); (obtain ⟨w2, hs, hb2⟩ := (HB3).out.swap (x := (kx : Int)) (y := ((kx : Int) - 1)) (i := kx) (j := (kx - 1)) (by omega) (by omega) (by omega) (by omega); have HB4 := Lib.hid hb2; have s0 := hb2.b0; have s1 := hb2.b1; clear hb2)))
                go_loopw [9] (fun vj wj => ∃ (j : Nat) (dj : Array α), vj = .int .i64 j ∧ j ≤ kx - 1 ∧ Hid (Bx C w w.heap.size dj wj) ∧ Hid (shiftDown C.lt j dj = shiftDown C.lt (kx - 1) (swp dk kx (kx - 1)))) (fun vj _ => (intOf vj).toNat)
                case atStart => exact ⟨kx - 1, swp dk kx (kx - 1), by congr 1; omega, Nat.le_refl _, HB4, Lib.hid rfl⟩
                case round =>
                  rename World => wj
                  clear c0 c1 d0 d1 hs s0 s1
                  obtain ⟨j, dj, rfl, hjk, HBJ, HDn⟩ := hrel
                  have c0 := HBJ.out.b0
                  have c1 := HBJ.out.b1
                  by_cases hj1 : 1 ≤ j
                  · have hj1z : (1 : Int) ≤ (j : Int) := by omega
                    cases hlv2 : C.lt dj[j]! dj[j - 1]! with
                    | true =>
                      go_wp2_with (first | ((go_at_fn C.g; (with_reducible refine ((HBJ).out.less (x := (j : Int)) (y := ((j : Int) - 1)) (i := j) (j := (j - 1)) (by omega) (by omega) (by omega) (by omega) hlv2).mono ?_); rintro e w1 ⟨rfl, hb1⟩; have HB5 := Lib.hid hb1; have d0 := hb1.b0; have d1 := hb1.b1; clear hb1); (obtain ⟨w2, hs, hb2⟩ := (HB5).out.swap (x := (j : Int)) (y := ((j : Int) - 1)) (i := j) (j := (j - 1)) (by omega) (by omega) (by omega) (by omega); have HB6 := Lib.hid hb2; have s0 := hb2.b0; have s1 := hb2.b1; clear hb2)))
                      go_roundw
                      case rel => exact ⟨j - 1, swp dj j (j - 1), by congr 1; omega, by omega, HB6, Lib.hid (by rw [← HDn.out, shiftDown_go C.lt j dj hj1 hlv2])⟩
                      case measure => simp [intOf]; omega
                    | false =>
                      have HD := Lib.hid (show fixDown C.lt a kx (swp dk kx (kx - 1)) = dj by unfold fixDown; rw [if_pos hka, ← HDn.out, shiftDown_stop C.lt j dj (Or.inr hlv2)])
                      (by_cases hbk : b - kx ≥ 2
                       · have hbkz : (2 : Int) ≤ (b : Int) - (kx : Int) := by omega
                         ((go_wp2_with (first | ((go_at_fn C.g; (with_reducible refine ((HBJ).out.less (x := (j : Int)) (y := ((j : Int) - 1)) (i := j) (j := (j - 1)) (by omega) (by omega) (by omega) (by omega) hlv2).mono ?_); rintro e w1 ⟨rfl, hb1⟩; have HB5 := Lib.hid hb1; have d0 := hb1.b0; have d1 := hb1.b1; clear hb1)))))
                         go_loopw [10] (fun vj wu => ∃ (ju : Nat) (du : Array α), vj = .int .i64 ju ∧ kx + 1 ≤ ju ∧ ju ≤ b ∧ Hid (Bx C w w.heap.size du wu) ∧ Hid (shiftUp C.lt b ju du = shiftUp C.lt b (kx + 1) dj)) (fun vj _ => b - (intOf vj).toNat)
                         case atStart => exact ⟨kx + 1, dj, by go_num, Nat.le_refl _, by omega, HB5, Lib.hid rfl⟩
                         case round =>
                           rename World => wu
                           obtain ⟨ju, du, rfl, hkj, hjb, HBU, HU⟩ := hrel
                           have c0 := HBU.out.b0
                           have c1 := HBU.out.b1
                           by_cases hjb' : ju < b
                           · cases hlv3 : C.lt du[ju]! du[ju - 1]! with
                             | true =>
                               go_wp2_with (first | ((go_at_fn C.g; (with_reducible refine ((HBU).out.less (x := (ju : Int)) (y := ((ju : Int) - 1)) (i := ju) (j := (ju - 1)) (by omega) (by omega) (by omega) (by omega) hlv3).mono ?_); rintro e w1 ⟨rfl, hb1⟩; have HB7 := Lib.hid hb1; have d0 := hb1.b0; have d1 := hb1.b1; clear hb1); (obtain ⟨w2, hs, hb2⟩ := (HB7).out.swap (x := (ju : Int)) (y := ((ju : Int) - 1)) (i := ju) (j := (ju - 1)) (by omega) (by omega) (by omega) (by omega); have HB8 := Lib.hid hb2; have s0 := hb2.b0; have s1 := hb2.b1; clear hb2)))
                               go_roundw
                               case rel => exact ⟨ju + 1, swp du ju (ju - 1), by go_num, by omega, by omega, HB8, Lib.hid (by rw [← HU.out, shiftUp_go C.lt b ju du hjb' hlv3])⟩
                               case measure => simp [intOf]; omega
                             | false =>
                               go_wp2_with (first | ((go_at_fn C.g; (with_reducible refine ((HBU).out.less (x := (ju : Int)) (y := ((ju : Int) - 1)) (i := ju) (j := (ju - 1)) (by omega) (by omega) (by omega) (by omega) hlv3).mono ?_); rintro e w1 ⟨rfl, hb1⟩; have HB7 := Lib.hid hb1; have d0 := hb1.b0; have d1 := hb1.b1; clear hb1)))
                               (go_roundw
                                case rel => exact ⟨kx, s + 1, du, rfl, by go_num, by omega, by omega, by omega, HB7, Lib.hid (by rw [← HO.out, pi_go C.lt a b s i kx dk hsl HK.out (by omega) h50, HD.out, (show fixUp C.lt b kx dj = du by unfold fixUp; rw [if_pos hbk, ← HU.out, shiftUp_stop C.lt b ju du (Or.inr hlv3)])])⟩
                                case measure => simp [intOf]; omega)
                           · go_wp2
                             (go_roundw
                              case rel => exact ⟨kx, s + 1, du, rfl, by go_num, by omega, by omega, by omega, HBU, Lib.hid (by rw [← HO.out, pi_go C.lt a b s i kx dk hsl HK.out (by omega) h50, HD.out, (show fixUp C.lt b kx dj = du by unfold fixUp; rw [if_pos hbk, ← HU.out, shiftUp_stop C.lt b ju du (Or.inl hjb')])])⟩
                              case measure => simp [intOf]; omega)
                       · have hbkz : ¬ (2 : Int) ≤ (b : Int) - (kx : Int) := by omega
                         first
                           | (exfalso; omega)
                           | (((go_wp2_with (first | ((go_at_fn C.g; (with_reducible refine ((HBJ).out.less (x := (j : Int)) (y := ((j : Int) - 1)) (i := j) (j := (j - 1)) (by omega) (by omega) (by omega) (by omega) hlv2).mono ?_); rintro e w1 ⟨rfl, hb1⟩; have HB5 := Lib.hid hb1; have d0 := hb1.b0; have d1 := hb1.b1; clear hb1)))))
                              (go_roundw
                               case rel => exact ⟨kx, s + 1, dj, rfl, by go_num, by omega, by omega, by omega, HB5, Lib.hid (by rw [← HO.out, pi_go C.lt a b s i kx dk hsl HK.out (by omega) h50, HD.out, (show fixUp C.lt b kx dj = dj by unfold fixUp; rw [if_neg hbk])])⟩
                               case measure => simp [intOf]; omega)))
                  · have hj1z : ¬ (1 : Int) ≤ (j : Int) := by omega
                    have HD := Lib.hid (show fixDown C.lt a kx (swp dk kx (kx - 1)) = dj by unfold fixDown; rw [if_pos hka, ← HDn.out, shiftDown_stop C.lt j dj (Or.inl (by omega))])
                    (by_cases hbk : b - kx ≥ 2
                     · have hbkz : (2 : Int) ≤ (b : Int) - (kx : Int) := by omega
                       ((go_wp2))
                       go_loopw [10] (fun vj wu => ∃ (ju : Nat) (du : Array α), vj = .int .i64 ju ∧ kx + 1 ≤ ju ∧ ju ≤ b ∧ Hid (Bx C w w.heap.size du wu) ∧ Hid (shiftUp C.lt b ju du = shiftUp C.lt b (kx + 1) dj)) (fun vj _ => b - (intOf vj).toNat)
                       case atStart => exact ⟨kx + 1, dj, by go_num, Nat.le_refl _, by omega, HBJ, Lib.hid rfl⟩
                       case round =>
                         rename World => wu
                         obtain ⟨ju, du, rfl, hkj, hjb, HBU, HU⟩ := hrel
                         have c0 := HBU.out.b0
                         have c1 := HBU.out.b1
                         by_cases hjb' : ju < b
                         · cases hlv3 : C.lt du[ju]! du[ju - 1]! with
                           | true =>
                             go_wp2_with (first | ((go_at_fn C.g; (with_reducible refine ((HBU).out.less (x := (ju : Int)) (y := ((ju : Int) - 1)) (i := ju) (j := (ju - 1)) (by omega) (by omega) (by omega) (by omega) hlv3).mono ?_); rintro e w1 ⟨rfl, hb1⟩; have HB7 := Lib.hid hb1; have d0 := hb1.b0; have d1 := hb1.b1; clear hb1); (obtain ⟨w2, hs, hb2⟩ := (HB7).out.swap (x := (ju : Int)) (y := ((ju : Int) - 1)) (i := ju) (j := (ju - 1)) (by omega) (by omega) (by omega) (by omega); have HB8 := Lib.hid hb2; have s0 := hb2.b0; have s1 := hb2.b1; clear hb2)))
                             go_roundw
                             case rel => exact ⟨ju + 1, swp du ju (ju - 1), by go_num, by omega, by omega, HB8, Lib.hid (by rw [← HU.out, shiftUp_go C.lt b ju du hjb' hlv3])⟩
                             case measure => simp [intOf]; omega
                           | false =>
                             go_wp2_with (first | ((go_at_fn C.g; (with_reducible refine ((HBU).out.less (x := (ju : Int)) (y := ((ju : Int) - 1)) (i := ju) (j := (ju - 1)) (by omega) (by omega) (by omega) (by omega) hlv3).mono ?_); rintro e w1 ⟨rfl, hb1⟩; have HB7 := Lib.hid hb1; have d0 := hb1.b0; have d1 := hb1.b1; clear hb1)))
                             (go_roundw
                              case rel => exact ⟨kx, s + 1, du, rfl, by go_num, by omega, by omega, by omega, HB7, Lib.hid (by rw [← HO.out, pi_go C.lt a b s i kx dk hsl HK.out (by omega) h50, HD.out, (show fixUp C.lt b kx dj = du by unfold fixUp; rw [if_pos hbk, ← HU.out, shiftUp_stop C.lt b ju du (Or.inr hlv3)])])⟩
                              case measure => simp [intOf]; omega)
                         · go_wp2
                           (go_roundw
                            case rel => exact ⟨kx, s + 1, du, rfl, by go_num, by omega, by omega, by omega, HBU, Lib.hid (by rw [← HO.out, pi_go C.lt a b s i kx dk hsl HK.out (by omega) h50, HD.out, (show fixUp C.lt b kx dj = du by unfold fixUp; rw [if_pos hbk, ← HU.out, shiftUp_stop C.lt b ju du (Or.inl hjb')])])⟩
                            case measure => simp [intOf]; omega)
                     · have hbkz : ¬ (2 : Int) ≤ (b : Int) - (kx : Int) := by omega
                       first
                         | (exfalso; omega)
                         | (((go_wp2))
                            (go_roundw
                             case rel => exact ⟨kx, s + 1, dj, rfl, by go_num, by omega, by omega, by omega, HBJ, Lib.hid (by rw [← HO.out, pi_go C.lt a b s i kx dk hsl HK.out (by omega) h50, HD.out, (show fixUp C.lt b kx dj = dj by unfold fixUp; rw [if_neg hbk])])⟩
                             case measure => simp [intOf]; omega)))
              · have hkaz : ¬ (2 : Int) ≤ (kx : Int) - (a : Int) := by omega
                have HD := Lib.hid (show fixDown C.lt a kx (swp dk kx (kx - 1)) = swp dk kx (kx - 1) by unfold fixDown; rw [if_neg hka])
                have hbk : b - kx ≥ 2 := by omega
                (by_cases hbk : b - kx ≥ 2
                 · have hbkz : (2 : Int) ≤ (b : Int) - (kx : Int) := by omega
                   ((go_wp2_with (first | ((go_at_fn C.g; (with_reducible refine ((HBQ).out.less (x := (kx : Int)) (y := ((kx : Int) - 1)) (i := kx) (j := (kx - 1)) (by omega) (by omega) (by omega) (by omega) hlv).mono ?_); rintro e w1 ⟨rfl, hb1⟩; have HB3 := Lib.hid hb1; have d0 := hb1.b0; have d1 := hb1.b1; clear hb1); (obtain ⟨w2, hs, hb2⟩ := (HB3).out.swap (x := (kx : Int)) (y := ((kx : Int) - 1)) (i := kx) (j := (kx - 1)) (by omega) (by omega) (by omega) (by omega); have HB4 := Lib.hid hb2; have s0 := hb2.b0; have s1 := hb2.b1; clear hb2)))))
                   go_loopw [10] (fun vj wu => ∃ (ju : Nat) (du : Array α), vj = .int .i64 ju ∧ kx + 1 ≤ ju ∧ ju ≤ b ∧ Hid (Bx C w w.heap.size du wu) ∧ Hid (shiftUp C.lt b ju du = shiftUp C.lt b (kx + 1) (swp dk kx (kx - 1)))) (fun vj _ => b - (intOf vj).toNat)
                   case atStart => exact ⟨kx + 1, (swp dk kx (kx - 1)), by go_num, Nat.le_refl _, by omega, HB4, Lib.hid rfl⟩
                   case round =>
                     rename World => wu
                     obtain ⟨ju, du, rfl, hkj, hjb, HBU, HU⟩ := hrel
                     have c0 := HBU.out.b0
                     have c1 := HBU.out.b1
                     by_cases hjb' : ju < b
                     · cases hlv3 : C.lt du[ju]! du[ju - 1]! with
                       | true =>
                         go_wp2_with (first | ((go_at_fn C.g; (with_reducible refine ((HBU).out.less (x := (ju : Int)) (y := ((ju : Int) - 1)) (i := ju) (j := (ju - 1)) (by omega) (by omega) (by omega) (by omega) hlv3).mono ?_); rintro e w1 ⟨rfl, hb1⟩; have HB7 := Lib.hid hb1; have d0 := hb1.b0; have d1 := hb1.b1; clear hb1); (obtain ⟨w2, hs, hb2⟩ := (HB7).out.swap (x := (ju : Int)) (y := ((ju : Int) - 1)) (i := ju) (j := (ju - 1)) (by omega) (by omega) (by omega) (by omega); have HB8 := Lib.hid hb2; have s0 := hb2.b0; have s1 := hb2.b1; clear hb2)))
                         go_roundw
                         case rel => exact ⟨ju + 1, swp du ju (ju - 1), by go_num, by omega, by omega, HB8, Lib.hid (by rw [← HU.out, shiftUp_go C.lt b ju du hjb' hlv3])⟩
                         case measure => simp [intOf]; omega
                       | false =>
                         go_wp2_with (first | ((go_at_fn C.g; (with_reducible refine ((HBU).out.less (x := (ju : Int)) (y := ((ju : Int) - 1)) (i := ju) (j := (ju - 1)) (by omega) (by omega) (by omega) (by omega) hlv3).mono ?_); rintro e w1 ⟨rfl, hb1⟩; have HB7 := Lib.hid hb1; have d0 := hb1.b0; have d1 := hb1.b1; clear hb1)))
                         (go_roundw
                          case rel => exact ⟨kx, s + 1, du, rfl, by go_num, by omega, by omega, by omega, HB7, Lib.hid (by rw [← HO.out, pi_go C.lt a b s i kx dk hsl HK.out (by omega) h50, HD.out, (show fixUp C.lt b kx (swp dk kx (kx - 1)) = du by unfold fixUp; rw [if_pos hbk, ← HU.out, shiftUp_stop C.lt b ju du (Or.inr hlv3)])])⟩
                          case measure => simp [intOf]; omega)
                     · go_wp2
                       (go_roundw
                        case rel => exact ⟨kx, s + 1, du, rfl, by go_num, by omega, by omega, by omega, HBU, Lib.hid (by rw [← HO.out, pi_go C.lt a b s i kx dk hsl HK.out (by omega) h50, HD.out, (show fixUp C.lt b kx (swp dk kx (kx - 1)) = du by unfold fixUp; rw [if_pos hbk, ← HU.out, shiftUp_stop C.lt b ju du (Or.inl hjb')])])⟩
                        case measure => simp [intOf]; omega)
                 · have hbkz : ¬ (2 : Int) ≤ (b : Int) - (kx : Int) := by omega
                   first
                     | (exfalso; omega)
                     | (((go_wp2_with (first | ((go_at_fn C.g; (with_reducible refine ((HBQ).out.less (x := (kx : Int)) (y := ((kx : Int) - 1)) (i := kx) (j := (kx - 1)) (by omega) (by omega) (by omega) (by omega) hlv).mono ?_); rintro e w1 ⟨rfl, hb1⟩; have HB3 := Lib.hid hb1; have d0 := hb1.b0; have d1 := hb1.b1; clear hb1); (obtain ⟨w2, hs, hb2⟩ := (HB3).out.swap (x := (kx : Int)) (y := ((kx : Int) - 1)) (i := kx) (j := (kx - 1)) (by omega) (by omega) (by omega) (by omega); have HB4 := Lib.hid hb2; have s0 := hb2.b0; have s1 := hb2.b1; clear hb2)))))
                        (go_roundw
                         case rel => exact ⟨kx, s + 1, (swp dk kx (kx - 1)), rfl, by go_num, by omega, by omega, by omega, HB4, Lib.hid (by rw [← HO.out, pi_go C.lt a b s i kx dk hsl HK.out (by omega) h50, HD.out, (show fixUp C.lt b kx (swp dk kx (kx - 1)) = (swp dk kx (kx - 1)) by unfold fixUp; rw [if_neg hbk])])⟩
                         case measure => simp [intOf]; omega)))
        · obtain rfl : kx = b := by omega
          have hkz : ¬ (kx : Int) < (kx : Int) := by omega
          go_wp2
          have hv : partialInsertionSort C.lt d a kx = (dk, true) := by
            unfold partialInsertionSort
            rw [← HO.out, pi_true C.lt a kx s i dk hsl (by rw [← HSc.out, scanSorted_stop C.lt dk kx kx (Or.inl (by omega))])]
          rw [hv]
          go_ret
          exact ⟨rfl, HBQ.out.sv⟩
    · obtain rfl : s = 5 := by omega
      go_wp2
      have hv : partialInsertionSort C.lt d a b = (dk, false) := by
        unfold partialInsertionSort
        rw [← HO.out, pi_end]
      rw [hv]
      go_ret
      exact ⟨rfl, HB.out.sv⟩
end Go.Proofs.Ytnhpjmjinchamaa
