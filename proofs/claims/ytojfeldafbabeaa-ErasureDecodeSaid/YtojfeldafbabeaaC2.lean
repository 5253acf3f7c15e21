/- The walks of the reference's Combine and of long. -/
import Derived.Test.YtojfeldafbabeaaC1
set_option linter.unusedVariables false
set_option linter.unusedSimpArgs false
set_option linter.unnecessarySimpa false
namespace Go.Proofs.Ytojfeldafbabeaa
open Go.RowKit Go.Mem

set_option maxHeartbeats 1000000 in
theorem refCombine_ok (c : List Nat) (rows : List (List Nat)) (n : Nat) (vc vr : Value) (w : World) (hc : Bytes w vc c) (hr : Mat w vr rows) (h0 : 0 < c.length) (hl : c.length = rows.length)
    (hn : ∀ i, i < rows.length → (rows.getD i []).length = n) (hb : n ≤ 2000) :
    Calls Try.prog 34 #[vc, vr] w (Gave 0 (fun w' v => Bytes w' v (GF.comb c rows) ∧ FreshAt w w' v) w) := by
  obtain ⟨ca, ccap, rfl, hcl⟩ := hc.open
  obtain ⟨ra, rcap, rfl, hrl⟩ := hr.open
  obtain ⟨m, hm⟩ : ∃ m, m = rows.length := ⟨_, rfl⟩
  obtain ⟨ob, oo, x0, rfl, hob, hx0, hbx0⟩ := hr.cell (i := 0) (by omega)
  obtain ⟨xa, xcap, rfl, hxl⟩ := hbx0.open
  rw [hn 0 (by omega)] at hx0 hxl
  rw [Nat.add_zero] at hx0
  rw [hl, ← hm]
  have H0 : 0 < m := by omega
  have H00 : (0 : Int) < (m : Int) := by omega
  have hmb : m ≤ 9223372036854775807 := by omega
  have hm0 : ((m : Int) == 0) = false := by rw [beq_eq_false_iff_ne]; omega
  have hmm : ((m : Int) != (m : Int)) = false := by simp
  have hnn : ((n : Int) != (n : Int)) = false := by simp
  have hmk := run_make_row' (P := Try.prog) 31 5 (.int .u8 0) 1 Try.underlying31 info5 rfl .i64 .i64 n (by omega) (by omega)
  have HL := Lib.hid hl
  have HM := Lib.hid hm
  have HN := Lib.hid hn
  have HC := Lib.hid hc
  have HR := Lib.hid hr
  clear hl hm hn hbx0 hc hr
  go_enter Try.func34, Try.ntmps34
  go_wp2_with fail
  go_loopw [6] (fun i wr => ∃ k : Nat, k ≤ m ∧ i = .int .i64 k ∧ Below w.heap.size w wr) (fun i _ => m - (intOf i).toNat)
  case atStart => exact ⟨0, by omega, rfl, Below.refl _ _⟩
  case round =>
    rename World => w1
    obtain ⟨k, hk, rfl, hbel⟩ := hrel
    have HB := Lib.hid hbel
    clear hbel
    have hx0' := (HB.out.cell (p := ⟨ob, oo, none⟩) hob).trans hx0
    by_cases hkm : k < m
    · obtain ⟨ob', oo', xk, he, hob', hxk, hbk⟩ := (HR.out).cell (i := k) (by have := HM.out; omega)
      cases he
      obtain ⟨ka, kcap, rfl, hkl⟩ := hbk.open
      rw [HN.out k (by have := HM.out; omega)] at hxk hkl
      have hxk' := (HB.out.cell (p := ⟨ob, oo + k, none⟩) hob).trans hxk
      clear hbk hxk hx0
      go_wp2_with fail
      go_still (by kernel_rfl)
      go_wp2_with fail
      go_roundw
      case rel => exact ⟨k + 1, by omega, by go_num, HB.out.drew⟩
      case measure => simp [intOf]; omega
    · have HK := Lib.hid (show k = m by omega)
      have hsz1 := HB.out.size
      clear hx0
      go_wp2_with fail
      go_loopw [8] (fun i wr => ∃ k : Nat, k ≤ m ∧ i = .int .i64 k ∧ Below w.heap.size w wr ∧ wr.heap.size = w1.heap.size + 1 ∧ wr.rowIs w1.heap.size 5 n (fun j => .int .u8 ((GF.sumTo c rows k j : Nat) : Int))) (fun i _ => m - (intOf i).toNat)
      case atStart =>
        exact ⟨0, by omega, rfl, HB.out.alloc hsz1 _, by simp, (World.rowIs_made w1 (.int .u8 0) n 5).congr (fun i _ => by simp [GF.sumTo])⟩
      case round =>
        rename World => wr
        obtain ⟨k2, hk2, rfl, hbel2, hsz2, hrow2⟩ := hrel
        have HB2 := Lib.hid hbel2
        have HZ2 := Lib.hid hsz2
        have HRow2 := Lib.hid hrow2
        clear hbel2 hsz2 hrow2
        by_cases hkm2 : k2 < m
        · obtain ⟨ob', oo', xk, he, hob', hxk, hbk⟩ := (HR.out).cell (i := k2) (by have := HM.out; omega)
          cases he
          obtain ⟨ka, kcap, rfl, hkl⟩ := hbk.open
          rw [HN.out k2 (by have := HM.out; omega)] at hxk hkl
          have HBK := Lib.hid hbk
          have HXK := Lib.hid hxk
          clear hbk hxk
          obtain ⟨ck, hck⟩ : ∃ x, x = c.getD k2 0 := ⟨_, rfl⟩
          have HCK := Lib.hid hck
          clear hck
          go_wp2_with fail
          go_loopw [9] (fun q wq => ∃ j : Nat, j ≤ n ∧ q = .int .i64 j ∧ Below w.heap.size w wq ∧ wq.heap.size = w1.heap.size + 1 ∧ wq.rowIs w1.heap.size 5 n (fun i => .int .u8 ((GF.upTo (GF.sumTo c rows k2) ck (rows.getD k2 []) j i : Nat) : Int))) (fun q _ => n - (intOf q).toNat)
          case atStart =>
            exact ⟨0, by omega, rfl, HB2.out, HZ2.out, HRow2.out.congr (fun i _ => by rw [GF.upTo_zero])⟩
          case round =>
            rename World => wq
            obtain ⟨j, hj, rfl, hbel3, hsz3, hrow3⟩ := hrel
            have HB3 := Lib.hid hbel3
            have HZ3 := Lib.hid hsz3
            have HRow3 := Lib.hid hrow3
            clear hbel3 hsz3 hrow3
            by_cases hjn : j < n
            · obtain ⟨kb, ko, rfl, hkb, hxj⟩ := (HBK.out).cell (i := j) (by rw [HN.out k2 (by have := HM.out; omega)]; exact hjn)
              have hxj' := (HB3.out.cell (p := ⟨kb, ko + j, none⟩) hkb).trans hxj
              have hxk' := (HB3.out.cell (p := ⟨ob, oo + k2, none⟩) hob).trans HXK.out
              clear hxj
              obtain ⟨xj, hxjd⟩ : ∃ x, x = (rows.getD k2 []).getD j 0 := ⟨_, rfl⟩
              rw [← hxjd] at hxj'
              have HXJ := Lib.hid hxjd
              clear hxjd
              have xjlt : xj < 256 := by rw [HXJ.out]; exact HBK.out.lt j
              obtain ⟨cb, co, rfl, hcb, hck⟩ := (HC.out).cell (i := k2) (by have := HM.out; have := HL.out; omega)
              rw [← HCK.out] at hck
              have hck' := (HB3.out.cell (p := ⟨cb, co + k2, none⟩) hcb).trans hck
              clear hck
              have cklt : ck < 256 := by rw [HCK.out]; exact HC.out.lt k2
              obtain ⟨o, ho⟩ : ∃ x, x = GF.sumTo c rows k2 j := ⟨_, rfl⟩
              have hout := HRow3.out.cell hjn
              have hfr := HRow3.out.frozen j
              rw [GF.upTo_self, ← ho] at hout
              have HO := Lib.hid ho
              clear ho
              have olt : o < 256 := by rw [HO.out]; exact GF.sumTo_lt HC.out.2 k2 j
              have HX := Lib.hid (u8_xor_nat o (GF.mul ck xj) olt (GF.mul_lt cklt))
              go_wp2_with fail
              refine wp_region_still_tail 20 (by kernel_rfl) (by kernel_rfl) ?_
              simp only [List.take_succ_cons, List.take_zero, List.drop_succ_cons, List.drop_zero]
              repeat still_step
              still_call (still (refMul_any ck xj _ cklt xjlt))
              repeat still_step
              refine wpStill_nil ?_
              go_wp2_with fail
              go_roundw
              case rel =>
                exact ⟨j + 1, by omega, by go_num, HB3.out.drew.setCell hsz1 _, by simp; exact HZ3.out, (HRow3.out.drew.set j _).congr (fun i _ => by
                  rw [GF.upTo_step]
                  split
                  · rw [HX.out, HO.out, HCK.out, HXJ.out]
                  · rfl)⟩
              case measure => simp [intOf]; omega
            · have HJ := Lib.hid (show j = n by omega)
              go_wp2_with fail
              go_roundw
              case rel =>
                exact ⟨k2 + 1, by omega, by go_num, HB3.out, HZ3.out, HRow3.out.congr (fun i hi => by
                  rw [HJ.out, HCK.out, GF.upTo_all c rows k2 n i hi])⟩
              case measure => simp [intOf]; omega
        · have HK2 := Lib.hid (show k2 = m by omega)
          go_wp2_with fail
          go_ret2
          have hcl := GF.comb_length c rows
          rw [HN.out 0 (by have := HM.out; omega)] at hcl
          have hb := Bytes.of_row (l := GF.comb c rows) (HRow2.out.congr (fun i hi => by
            rw [GF.comb_getD c rows i (by rw [HN.out 0 (by have := HM.out; omega)]; exact hi), HK2.out, ← HM.out])) (by omega) (by unfold maxLen; omega) (by omega) (GF.comb_lt HC.out.2 rows)
          rw [hcl] at hb
          obtain ⟨cc, hcc, _⟩ := HRow2.out
          exact ⟨_, rfl, ⟨hb, ⟨_, _, _, _, rfl, HB.out.size, hcc⟩⟩, HB2.out⟩

end Go.Proofs.Ytojfeldafbabeaa
