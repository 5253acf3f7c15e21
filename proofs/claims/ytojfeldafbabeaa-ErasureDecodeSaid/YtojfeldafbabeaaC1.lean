/- The walks of Combine, the program's. -/
import Derived.Test.YtojfeldafbabeaaW2
import Derived.Test.YtojfeldafbabeaaMem
import Derived.Test.YtojfeldafbabeaaLin
import Derived.StillTailTactics
set_option linter.unusedVariables false
set_option linter.unusedSimpArgs false
set_option linter.unnecessarySimpa false
namespace Go.Proofs.Ytojfeldafbabeaa
open Go.RowKit Go.Mem

def Gave (E : Int) (R : World → Value → Prop) (w : World) (e : Ending) (w' : World) : Prop := ∃ v, e = .returned (.tuple #[v, .int .i64 E]) ∧ R w' v ∧ Below w.heap.size w w'

/-- a slice of bytes that lies in a block that w did not have -/
def FreshAt (w w' : World) (v : Value) : Prop := ∃ b n cap c, v = .slice (some ⟨b, 0, none⟩) n cap ∧ w.heap.size ≤ b ∧ w'.heap[b]? = some (.cells c 5 (0, 0))

theorem info5 : (Try.prog.info? 5).map (fun i => (i.zero, i.size, i.bytes)) = some (some (.int .u8 0), 1, 1) := by kernel_rfl

set_option maxHeartbeats 1000000 in
theorem combine_ok (c : List Nat) (rows : List (List Nat)) (n : Nat) (vc vr : Value) (w : World) (hc : Bytes w vc c) (hr : Mat w vr rows) (h0 : 0 < c.length) (hl : c.length = rows.length)
    (hn : ∀ i, i < rows.length → (rows.getD i []).length = n) (hb : n ≤ 2000) :
    Calls Try.prog 41 #[vc, vr] w (Gave 0 (fun w' v => Bytes w' v (GF.comb c rows) ∧ FreshAt w w' v) w) := by
  obtain ⟨ca, ccap, rfl, hcl⟩ := hc.open
  obtain ⟨ra, rcap, rfl, hrl⟩ := hr.open
  obtain ⟨m, hm⟩ : ∃ m, m = rows.length := ⟨_, rfl⟩
  obtain ⟨ob, oo, x0, rfl, hob, hx0, hbx0⟩ := hr.cell (i := 0) (by omega)
  obtain ⟨xa, xcap, rfl, hxl⟩ := hbx0.open
  rw [hn 0 (by omega)] at hx0 hxl
  rw [Nat.add_zero] at hx0
  rw [hl, ← hm]
  have H0 : 0 < m := by omega
  have hmb : m ≤ 9223372036854775807 := by omega
  have hm0 : ((m : Int) == 0) = false := by rw [beq_eq_false_iff_ne]; omega
  have hmm : ((m : Int) != (m : Int)) = false := by simp
  have hmk := run_make_row' (P := Try.prog) 31 5 (.int .u8 0) 1 Try.underlying31 info5 rfl .i64 .i64 n (by omega) (by omega)
  have HL := Lib.hid hl
  have HM := Lib.hid hm
  have HN := Lib.hid hn
  have HC := Lib.hid hc
  have HR := Lib.hid hr
  clear hl hm hn hbx0 hc hr
  go_enter Try.func41, Try.ntmps41
  go_wp2_with fail
  go_loopw [28] (fun i wr => ∃ k : Nat, k ≤ m ∧ i = .int .i64 k ∧ Below w.heap.size w wr ∧ wr.heap.size = w.heap.size + 1 ∧ wr.rowIs w.heap.size 5 n (fun j => .int .u8 ((GF.sumTo c rows k j : Nat) : Int))) (fun i _ => m - (intOf i).toNat)
  case atStart =>
    exact ⟨0, by omega, rfl, (Below.refl _ _).alloc (Nat.le_refl _) _, by simp, (World.rowIs_made w (.int .u8 0) n 5).congr (fun i _ => by simp [GF.sumTo])⟩
  case round =>
    obtain ⟨k, hk, rfl, hbel, hsz, hrow⟩ := hrel
    have HB := Lib.hid hbel
    have HZ := Lib.hid hsz
    have HRow := Lib.hid hrow
    clear hbel hsz hrow
    by_cases hkm : k < m
    · obtain ⟨ob', oo', xk, he, hob', hxk, hbk⟩ := (HR.out).cell (i := k) (by have := HM.out; omega)
      cases he
      obtain ⟨ka, kcap, rfl, hkl⟩ := hbk.open
      rw [HN.out k (by have := HM.out; omega)] at hxk hkl
      have hxk' : wr.cell? ⟨ob, oo + k, none⟩ = some (.slice ka n kcap) := (HB.out.cell (p := ⟨ob, oo + k, none⟩) hob).trans hxk
      have HBK := Lib.hid hbk
      clear hbk hxk
      obtain ⟨ck, hck⟩ : ∃ x, x = c.getD k 0 := ⟨_, rfl⟩
      have HCK := Lib.hid hck
      clear hck
      go_wp2_with fail
      have hwr : Hid (wr = wr) := Lib.hid rfl
      go_loopw [40] (fun q wq => ∃ j : Nat, j ≤ n ∧ q = .int .i64 j ∧ Below w.heap.size w wq ∧ wq.heap.size = w.heap.size + 1 ∧ wq.rowIs w.heap.size 5 n (fun i => .int .u8 ((GF.upTo (GF.sumTo c rows k) ck (rows.getD k []) j i : Nat) : Int))) (fun q _ => n - (intOf q).toNat)
      case atStart =>
        exact ⟨0, by omega, rfl, HB.out, HZ.out, HRow.out.congr (fun i _ => by rw [GF.upTo_zero])⟩
      case round =>
        rename World => wq
        obtain ⟨j, hj, rfl, hbel, hsz, hrow⟩ := hrel
        have HB2 := Lib.hid hbel
        have HZ2 := Lib.hid hsz
        have HRow2 := Lib.hid hrow
        clear hbel hsz hrow
        by_cases hjn : j < n
        · obtain ⟨kb, ko, rfl, hkb, hxj⟩ := (HBK.out).cell (i := j) (by rw [HN.out k (by have := HM.out; omega)]; exact hjn)
          have hxj' := (HB2.out.cell (p := ⟨kb, ko + j, none⟩) hkb).trans hxj
          clear hxj
          obtain ⟨xj, hxjd⟩ : ∃ x, x = (rows.getD k []).getD j 0 := ⟨_, rfl⟩
          rw [← hxjd] at hxj'
          have HXJ := Lib.hid hxjd
          clear hxjd
          have xjlt : xj < 256 := by rw [HXJ.out]; exact HBK.out.lt j
          obtain ⟨cb, co, rfl, hcb, hck⟩ := (HC.out).cell (i := k) (by have := HM.out; have := HL.out; omega)
          rw [← HCK.out] at hck
          have hck' := (HB2.out.cell (p := ⟨cb, co + k, none⟩) hcb).trans hck
          clear hck
          have cklt : ck < 256 := by rw [HCK.out]; exact HC.out.lt k
          obtain ⟨o, ho⟩ : ∃ x, x = GF.sumTo c rows k j := ⟨_, rfl⟩
          have hout := HRow2.out.cell hjn
          have hfr := HRow2.out.frozen j
          rw [GF.upTo_self, ← ho] at hout
          have HO := Lib.hid ho
          clear ho
          have olt : o < 256 := by rw [HO.out]; exact GF.sumTo_lt HC.out.2 k j
          have HX := Lib.hid (u8_xor_nat o (GF.mul ck xj) olt (GF.mul_lt cklt))
          go_wp2_with fail
          refine wp_region_still_tail 12 (by kernel_rfl) (by kernel_rfl) ?_
          simp only [List.take_succ_cons, List.take_zero, List.drop_succ_cons, List.drop_zero]
          repeat still_step
          still_call (still (mul_any ck xj _ cklt xjlt))
          repeat still_step
          refine wpStill_nil ?_
          go_wp2_with fail
          go_roundw
          case rel =>
            exact ⟨j + 1, by omega, by go_num, HB2.out.drew.setCell (Nat.le_refl _) _, by simp; exact HZ2.out, (HRow2.out.drew.set j _).congr (fun i _ => by
              rw [GF.upTo_step]
              split
              · rw [HX.out, HO.out, HCK.out, HXJ.out]
              · rfl)⟩
          case measure => simp [intOf]; omega
        · have HJ := Lib.hid (show j = n by omega)
          go_wp2_with fail
          go_roundw
          case rel =>
            exact ⟨k + 1, by omega, by go_num, HB2.out, HZ2.out, HRow2.out.congr (fun i hi => by
              rw [HJ.out, HCK.out, GF.upTo_all c rows k n i hi])⟩
          case measure => simp [intOf]; omega
    · have HK := Lib.hid (show k = m by omega)
      go_wp2_with fail
      go_ret2
      have hcl := GF.comb_length c rows
      rw [HN.out 0 (by have := HM.out; omega)] at hcl
      have hb := Bytes.of_row (l := GF.comb c rows) (HRow.out.congr (fun i hi => by
        rw [GF.comb_getD c rows i (by rw [HN.out 0 (by have := HM.out; omega)]; exact hi), HK.out, ← HM.out])) (by omega) (by unfold maxLen; omega) (by omega) (GF.comb_lt HC.out.2 rows)
      rw [hcl] at hb
      obtain ⟨cc, hcc, _⟩ := HRow.out
      exact ⟨_, rfl, ⟨hb, ⟨_, _, _, _, rfl, Nat.le_refl _, hcc⟩⟩, HB.out⟩


set_option maxHeartbeats 1000000 in
theorem combine_bad (c : List Nat) (rows : List (List Nat)) (n p : Nat) (vc vr : Value) (w : World) (hc : Bytes w vc c) (hr : Mat w vr rows) (h0 : 0 < c.length) (hl : c.length = rows.length)
    (hp : p < rows.length) (hp0 : 0 < p) (hn : ∀ i, i < p → (rows.getD i []).length = n) (hbad : (rows.getD p []).length ≠ n) (hb : n ≤ 2000) :
    Calls Try.prog 41 #[vc, vr] w (Gave 1 (fun _ v => v = .slice none 0 0) w) := by
  obtain ⟨ca, ccap, rfl, hcl⟩ := hc.open
  obtain ⟨ra, rcap, rfl, hrl⟩ := hr.open
  obtain ⟨m, hm⟩ : ∃ m, m = rows.length := ⟨_, rfl⟩
  obtain ⟨ob, oo, x0, rfl, hob, hx0, hbx0⟩ := hr.cell (i := 0) (by omega)
  obtain ⟨xa, xcap, rfl, hxl⟩ := hbx0.open
  rw [hn 0 (by omega)] at hx0 hxl
  rw [Nat.add_zero] at hx0
  rw [hl, ← hm]
  have H0 : 0 < m := by omega
  have hpm : p < m := by omega
  have hmb : m ≤ 9223372036854775807 := by omega
  have hm0 : ((m : Int) == 0) = false := by rw [beq_eq_false_iff_ne]; omega
  have hmm : ((m : Int) != (m : Int)) = false := by simp
  have hmk := run_make_row' (P := Try.prog) 31 5 (.int .u8 0) 1 Try.underlying31 info5 rfl .i64 .i64 n (by omega) (by omega)
  have HBd := Lib.hid hbad
  clear hbad
  have HL := Lib.hid hl
  have HM := Lib.hid hm
  have HN := Lib.hid hn
  have HC := Lib.hid hc
  have HR := Lib.hid hr
  clear hl hm hn hbx0 hc hr
  go_enter Try.func41, Try.ntmps41
  go_wp2_with fail
  go_loopw [28] (fun i wr => ∃ k : Nat, k ≤ p ∧ i = .int .i64 k ∧ Below w.heap.size w wr ∧ wr.heap.size = w.heap.size + 1 ∧ wr.rowIs w.heap.size 5 n (fun j => .int .u8 ((GF.sumTo c rows k j : Nat) : Int))) (fun i _ => p - (intOf i).toNat)
  case atStart =>
    exact ⟨0, by omega, rfl, (Below.refl _ _).alloc (Nat.le_refl _) _, by simp, (World.rowIs_made w (.int .u8 0) n 5).congr (fun i _ => by simp [GF.sumTo])⟩
  case round =>
    obtain ⟨k, hk, rfl, hbel, hsz, hrow⟩ := hrel
    have HB := Lib.hid hbel
    have HZ := Lib.hid hsz
    have HRow := Lib.hid hrow
    clear hbel hsz hrow
    by_cases hkm : k < p
    · have hkm' : k < m := by omega
      obtain ⟨ob', oo', xk, he, hob', hxk, hbk⟩ := (HR.out).cell (i := k) (by have := HM.out; omega)
      cases he
      obtain ⟨ka, kcap, rfl, hkl⟩ := hbk.open
      rw [HN.out k (by omega)] at hxk hkl
      have hxk' : wr.cell? ⟨ob, oo + k, none⟩ = some (.slice ka n kcap) := (HB.out.cell (p := ⟨ob, oo + k, none⟩) hob).trans hxk
      have HBK := Lib.hid hbk
      clear hbk hxk
      obtain ⟨ck, hck⟩ : ∃ x, x = c.getD k 0 := ⟨_, rfl⟩
      have HCK := Lib.hid hck
      clear hck
      go_wp2_with fail
      have hwr : Hid (wr = wr) := Lib.hid rfl
      go_loopw [40] (fun q wq => ∃ j : Nat, j ≤ n ∧ q = .int .i64 j ∧ Below w.heap.size w wq ∧ wq.heap.size = w.heap.size + 1 ∧ wq.rowIs w.heap.size 5 n (fun i => .int .u8 ((GF.upTo (GF.sumTo c rows k) ck (rows.getD k []) j i : Nat) : Int))) (fun q _ => n - (intOf q).toNat)
      case atStart =>
        exact ⟨0, by omega, rfl, HB.out, HZ.out, HRow.out.congr (fun i _ => by rw [GF.upTo_zero])⟩
      case round =>
        rename World => wq
        obtain ⟨j, hj, rfl, hbel, hsz, hrow⟩ := hrel
        have HB2 := Lib.hid hbel
        have HZ2 := Lib.hid hsz
        have HRow2 := Lib.hid hrow
        clear hbel hsz hrow
        by_cases hjn : j < n
        · obtain ⟨kb, ko, rfl, hkb, hxj⟩ := (HBK.out).cell (i := j) (by rw [HN.out k (by omega)]; exact hjn)
          have hxj' := (HB2.out.cell (p := ⟨kb, ko + j, none⟩) hkb).trans hxj
          clear hxj
          obtain ⟨xj, hxjd⟩ : ∃ x, x = (rows.getD k []).getD j 0 := ⟨_, rfl⟩
          rw [← hxjd] at hxj'
          have HXJ := Lib.hid hxjd
          clear hxjd
          have xjlt : xj < 256 := by rw [HXJ.out]; exact HBK.out.lt j
          obtain ⟨cb, co, rfl, hcb, hck⟩ := (HC.out).cell (i := k) (by have := HM.out; have := HL.out; omega)
          rw [← HCK.out] at hck
          have hck' := (HB2.out.cell (p := ⟨cb, co + k, none⟩) hcb).trans hck
          clear hck
          have cklt : ck < 256 := by rw [HCK.out]; exact HC.out.lt k
          obtain ⟨o, ho⟩ : ∃ x, x = GF.sumTo c rows k j := ⟨_, rfl⟩
          have hout := HRow2.out.cell hjn
          have hfr := HRow2.out.frozen j
          rw [GF.upTo_self, ← ho] at hout
          have HO := Lib.hid ho
          clear ho
          have olt : o < 256 := by rw [HO.out]; exact GF.sumTo_lt HC.out.2 k j
          have HX := Lib.hid (u8_xor_nat o (GF.mul ck xj) olt (GF.mul_lt cklt))
          go_wp2_with fail
          refine wp_region_still_tail 12 (by kernel_rfl) (by kernel_rfl) ?_
          simp only [List.take_succ_cons, List.take_zero, List.drop_succ_cons, List.drop_zero]
          repeat still_step
          still_call (still (mul_any ck xj _ cklt xjlt))
          repeat still_step
          refine wpStill_nil ?_
          go_wp2_with fail
          go_roundw
          case rel =>
            exact ⟨j + 1, by omega, by go_num, HB2.out.drew.setCell (Nat.le_refl _) _, by simp; exact HZ2.out, (HRow2.out.drew.set j _).congr (fun i _ => by
              rw [GF.upTo_step]
              split
              · rw [HX.out, HO.out, HCK.out, HXJ.out]
              · rfl)⟩
          case measure => simp [intOf]; omega
        · have HJ := Lib.hid (show j = n by omega)
          go_wp2_with fail
          go_roundw
          case rel =>
            exact ⟨k + 1, by omega, by go_num, HB2.out, HZ2.out, HRow2.out.congr (fun i hi => by
              rw [HJ.out, HCK.out, GF.upTo_all c rows k n i hi])⟩
          case measure => simp [intOf]; omega
    · obtain rfl : k = p := by omega
      obtain ⟨ob', oo', xk, he, hob', hxk, hbk⟩ := (HR.out).cell (i := k) (by have := HM.out; omega)
      cases he
      obtain ⟨ka, kcap, rfl, hkl⟩ := hbk.open
      obtain ⟨L, hL⟩ : ∃ L, L = (rows.getD k []).length := ⟨_, rfl⟩
      have hbad := HBd.out
      rw [← hL] at hxk hbad
      have hxk' : wr.cell? ⟨ob, oo + k, none⟩ = some (.slice ka L kcap) := (HB.out.cell (p := ⟨ob, oo + k, none⟩) hob).trans hxk
      have hne : ((L : Int) != (n : Int)) = true := by rw [bne_iff_ne]; omega
      clear hxk hbk hL
      have HBad := Lib.hid hbad
      clear hbad
      go_wp2_with fail
      go_ret2
      exact ⟨_, rfl, rfl, HB.out⟩

set_option maxHeartbeats 1000000 in
theorem combine_arg (c : List Nat) (rows : List (List Nat)) (vc vr : Value) (w : World) (hc : Bytes w vc c) (hr : Mat w vr rows) (h0 : c.length = 0 ∨ c.length ≠ rows.length) :
    Calls Try.prog 41 #[vc, vr] w (Gave 1 (fun _ v => v = .slice none 0 0) w) := by
  obtain ⟨ca, ccap, rfl, hcl⟩ := hc.open
  obtain ⟨ra, rcap, rfl, hrl⟩ := hr.open
  obtain ⟨m, hm⟩ : ∃ m, m = rows.length := ⟨_, rfl⟩
  obtain ⟨q, hq⟩ : ∃ q, q = c.length := ⟨_, rfl⟩
  rw [← hm] at h0 ⊢
  rw [← hq] at h0 ⊢
  clear hm hq hc hr
  by_cases hz : q = 0
  · have h1 : ((q : Int) == 0) = true := by subst hz; rfl
    have HZ := Lib.hid hz
    clear hz h0
    go_enter Try.func41, Try.ntmps41
    go_wp2_with fail
    go_ret2
    exact ⟨_, rfl, rfl, Below.refl _ _⟩
  · have h1 : ((q : Int) == 0) = false := by rw [beq_eq_false_iff_ne]; omega
    have h2 : ((q : Int) != (m : Int)) = true := by rw [bne_iff_ne]; omega
    have HZ := Lib.hid hz
    have H0 := Lib.hid h0
    clear hz h0
    go_enter Try.func41, Try.ntmps41
    go_wp2_with fail
    go_ret2
    exact ⟨_, rfl, rfl, Below.refl _ _⟩

end Go.Proofs.Ytojfeldafbabeaa
