/- The walk of the law FieldSingular. -/
import Derived.Test.YtpdjjodehahdoaaS3
namespace Go.Proofs.Ytpdjjodehahdoaa
open Go.RowKit Go.Mem Go.Deep

/-- one row of a grid replaced by another block -/
theorem grid_replace {w : World} {base R n m : Nat} {G C : Nat → Nat} {t : Nat → Nat → GF.F} (h : Grid w base R n m G C t) {i g c : Nat} (hi : i < n) {row : Nat → GF.F}
    (hg : OwnT w g 5 m (fun j => .int .u8 (((row j).v : Nat) : Int))) (hb : base ≤ g) (hR : g ≠ R) (hG : ∀ a, a < n → G a ≠ g) (hc : m ≤ c ∧ c ≤ maxLen) :
    Grid (w.setCell ⟨R, i, none⟩ (.slice (some ⟨g, 0, none⟩) m c)) base R n m (fun a => if a = i then g else G a) (fun a => if a = i then c else C a) (fun a => if a = i then row else t a) := by
  refine ⟨(h.outer.set i _).congr fun a _ => ?_, fun a ha => ?_, h.baseR, fun a ha => ?_, fun a ha => ?_, fun a b ha hb q => ?_, fun a ha => ?_⟩
  · by_cases e : a = i
    · simp [e]
    · simp [e]
  · by_cases e : a = i
    · subst e
      simp only [if_true]
      exact hg.own.setOther (a := ⟨R, a, none⟩) hR _
    · simp only [e, if_false]
      exact (h.inner a ha).setOther (a := ⟨R, i, none⟩) (h.neR a ha) _
  · by_cases e : a = i
    · simp [e, hb]
    · simp only [e, if_false]; exact h.baseG a ha
  · by_cases e : a = i
    · simp [e, hR]
    · simp only [e, if_false]; exact h.neR a ha
  · by_cases e1 : a = i <;> by_cases e2 : b = i
    · omega
    · simp only [e1, e2, if_true, if_false] at q
      exact absurd q.symm (hG b hb)
    · simp only [e1, e2, if_true, if_false] at q
      exact absurd q (hG a ha)
    · simp only [e1, e2, if_false] at q
      exact h.inj a b ha hb q
  · by_cases e : a = i
    · simp only [e, if_true]; exact hc
    · simp only [e, if_false]; exact h.cap a ha

/-- the factors of the other rows; 0 at row r and behind the list -/
def cF (c : List Nat) (r j : Nat) : GF.F := if j = r then 0 else ⟨c.getD j 0 % 256, Nat.mod_lt _ (by decide)⟩
def accTo (c : List Nat) (r : Nat) (t : Nat → Nat → GF.F) (j m : Nat) : GF.F := GF.sm j (fun a => cF c r a * t a m)
def accIn (c : List Nat) (r : Nat) (t : Nat → Nat → GF.F) (j q m : Nat) : GF.F := if m < q then accTo c r t (j + 1) m else accTo c r t j m
theorem accIn_zero (c : List Nat) (r : Nat) (t : Nat → Nat → GF.F) (j m : Nat) : accIn c r t j 0 m = accTo c r t j m := by unfold accIn; rw [if_neg (by omega)]
theorem accIn_self (c : List Nat) (r : Nat) (t : Nat → Nat → GF.F) (j q : Nat) : accIn c r t j q q = accTo c r t j q := by unfold accIn; rw [if_neg (by omega)]
theorem accIn_step (c : List Nat) (r : Nat) (t : Nat → Nat → GF.F) (j q m : Nat) : (if m = q then accTo c r t j q + cF c r j * t j q else accIn c r t j q m) = accIn c r t j (q + 1) m := by
  unfold accIn
  by_cases e : m = q
  · subst e; rw [if_pos rfl, if_pos (by omega)]; rfl
  · rw [if_neg e]
    by_cases e2 : m < q
    · rw [if_pos e2, if_pos (by omega)]
    · rw [if_neg e2, if_neg (by omega)]
theorem accTo_skip {c : List Nat} {r : Nat} {t : Nat → Nat → GF.F} {j m : Nat} (h : j = r ∨ c.length ≤ j) : accTo c r t j m = accTo c r t (j + 1) m := by
  show _ = accTo c r t j m + cF c r j * t j m
  have : cF c r j = 0 := by
    unfold cF
    rcases h with h | h
    · rw [if_pos h]
    · split
      · rfl
      · refine GF.F.ext ?_
        show c.getD j 0 % 256 = 0
        rw [List.getD_eq_getElem?_getD, List.getElem?_eq_none h]; rfl
  rw [this, GF.F.zero_mul, GF.F.add_zero]

set_option maxHeartbeats 4000000 in
set_option maxRecDepth 100000 in
theorem fieldSingular_any (n at' : Nat) (l c : List Nat) (vl vc : Value) (w : World) (hn : n < 256) (hat : at' < 256) (hl : Bytes w vl l) (hc : Bytes w vc c) :
    Calls Try.prog 8 #[.int .u8 n, vl, vc, .int .u8 at'] w (Yes w) := by
  obtain ⟨ca, ccap, rfl, hcl⟩ := hc.open
  obtain ⟨N, hN⟩ : ∃ N, N = c.length := ⟨_, rfl⟩
  rw [← hN] at hc hcl ⊢
  obtain ⟨K, hK⟩ : ∃ K, K = 1 + n % 8 := ⟨_, rfl⟩
  have h1 : 1 ≤ K := by omega
  have h8 : K ≤ 8 := by omega
  have hmk := run_make_row' (P := Try.prog) 29 5 (.int .u8 0) 1 Try.underlying29 info5 rfl .i64 .i64 K (by omega) (by omega)
  have HK := Lib.hid hK
  have HL := Lib.hid hl
  have HC := Lib.hid hc
  have HN := Lib.hid hN
  clear hK hl hc hN
  go_enter Try.func8, Try.ntmps8
  go_wp2_with fail
  rw [show (1 + (n : Int) % 8) = (K : Int) by have := HK.out; omega]
  refine (square_any K l vl w HL.out h1 h8).mono ?_
  rintro e w1 ⟨R, cap, G, C, rfl, hc1, hc2, hg, hb1⟩
  have HB1 := Lib.hid hb1
  have HG := Lib.hid hg
  obtain ⟨r, hr⟩ : ∃ r, r = at' % K := ⟨_, rfl⟩
  have hrK : r < K := by rw [hr]; exact Nat.mod_lt _ (by omega)
  have HRr := Lib.hid (show (at' : Int) % (K : Int) = (r : Int) by rw [hr]; omega)
  clear hg hb1 HK HL hr
  go_wp2_with fail
  rw [HRr.out]
  go_loopw [13] (fun q wr => ∃ j : Nat, j ≤ K ∧ q = .int .i64 j ∧ Below w1.heap.size w1 wr ∧ OwnT wr w1.heap.size 5 K (fun m => .int .u8 (((accTo c r (sqF K l) j m).v : Nat) : Int))) (fun q _ => K - (intOf q).toNat)
  case atStart => exact ⟨0, by omega, rfl, (Below.refl _ _).alloc (Nat.le_refl _) _, (OwnT.of_row (World.rowIs_made w1 (.int .u8 0) K 5)).congr (fun b _ => by simp [accTo, GF.sm, GF.F.v_zero])⟩
  case round =>
    rename World => wr
    obtain ⟨j, hj, rfl, hb2, ho2⟩ := hrel
    have HB2 := Lib.hid hb2
    have HO2 := Lib.hid ho2
    clear hb2 ho2
    by_cases hjK : j < K
    · by_cases hjr : j = r
      · have ht : ((j : Int) == (r : Int)) = true := by rw [hjr]; simp
        have HJ := Lib.hid hjr
        clear hjr
        go_wp2_with fail
        go_roundw
        case rel => exact ⟨j + 1, by omega, by go_num, HB2.out, HO2.out.congr (fun m _ => by rw [accTo_skip (.inl HJ.out)])⟩
        case measure => simp [intOf]; omega
      · have ht : ((j : Int) == (r : Int)) = false := by rw [beq_eq_false_iff_ne]; omega
        by_cases hjN : N ≤ j
        · go_wp2_with fail
          go_roundw
          case rel => exact ⟨j + 1, by omega, by go_num, HB2.out, HO2.out.congr (fun m _ => by rw [accTo_skip (.inr (by rw [← HN.out]; exact hjN))])⟩
          case measure => simp [intOf]; omega
        · have hjN' : j < N := by omega
          go_wp2_with fail
          go_loopw [14] (fun q wx => ∃ m : Nat, m ≤ K ∧ q = .int .i64 m ∧ Below w1.heap.size w1 wx ∧ OwnT wx w1.heap.size 5 K (fun b => .int .u8 (((accIn c r (sqF K l) j m b).v : Nat) : Int))) (fun q _ => K - (intOf q).toNat)
          case atStart => exact ⟨0, by omega, rfl, HB2.out, HO2.out.congr (fun b _ => by rw [accIn_zero])⟩
          case round =>
            rename World => wx
            obtain ⟨m, hm, rfl, hb3, ho3⟩ := hrel
            have HB3 := Lib.hid hb3
            have HO3 := Lib.hid ho3
            clear hb3 ho3
            by_cases hmK : m < K
            · have hgx := HG.out.below HB3.out
              have hoc := hgx.ocell hjK
              have hic := hgx.icell hjK hmK
              obtain ⟨cb, co, rfl, hcb, hck⟩ := HC.out.cell (i := j) (by have := HN.out; omega)
              have hck' := ((ext HB1.out HB3.out).cell (p := ⟨cb, co + j, none⟩) hcb).trans hck
              have hclt := HC.out.lt j
              obtain ⟨x, hx⟩ : ∃ x, x = c.getD j 0 := ⟨_, rfl⟩
              rw [← hx] at hck' hclt
              obtain ⟨y, hy⟩ : ∃ y, y = sqF K l j m := ⟨_, rfl⟩
              rw [← hy] at hic
              have ylt := y.lt
              have ho := HO3.out.cell hmK
              rw [accIn_self] at ho
              obtain ⟨z, hz⟩ : ∃ z, z = accTo c r (sqF K l) j m := ⟨_, rfl⟩
              rw [← hz] at ho
              have hof := HO3.out.frozen m
              have HX := Lib.hid hx
              have HY := Lib.hid hy
              have HZ := Lib.hid hz
              have hxor := Lib.hid (u8_xor_nat z.v (GF.mul x y.v) z.lt (GF.mul_lt hclt))
              have hval := Lib.hid (show (z.v ^^^ GF.mul x y.v) = (accTo c r (sqF K l) j m + cF c r j * sqF K l j m).v by
                rw [HZ.out, HY.out, GF.F.v_add, GF.F.v_mul]
                have : (cF c r j).v = x := by
                  unfold cF; rw [if_neg hjr]
                  show c.getD j 0 % 256 = x
                  rw [← hx]; exact Nat.mod_eq_of_lt hclt
                rw [this])
              clear hck hx hy hz hgx
              go_wp2_with fail
              refine wp_region_still_tail 20 (by kernel_rfl) (by kernel_rfl) ?_
              simp only [List.take_succ_cons, List.take_zero, List.drop_succ_cons, List.drop_zero]
              repeat still_step
              still_call (still (mul_any x y.v _ hclt ylt))
              repeat still_step
              refine wpStill_nil ?_
              go_wp2_with fail
              rw [hxor.out]
              go_roundw
              case rel => exact ⟨m + 1, by omega, by go_num, HB3.out.drew.setCell (Nat.le_refl _) _, (HO3.out.drew.set m _).congr (fun b _ => by
                rw [← accIn_step]
                by_cases e : b = m
                · rw [if_pos e, if_pos e, hval.out]
                · rw [if_neg e, if_neg e])⟩
              case measure => simp [intOf]; omega
            · have HM := Lib.hid (show m = K by omega)
              go_wp2_with fail
              go_roundw
              case rel => exact ⟨j + 1, by omega, by go_num, HB3.out, HO3.out.congr (fun b hb => by
                unfold accIn; rw [HM.out, if_pos hb])⟩
              case measure => simp [intOf]; omega
    · have hje : j = K := by omega
      have ho := HO2.out
      rw [hje] at ho
      have hgr := HG.out.below HB2.out
      have hlt := HG.out.outer.lt
      have hR := grid_replace hgr hrK ho (by have := HB1.out.size; omega) (by omega) (fun a ha => by have := (HG.out.inner a ha).lt; omega) ⟨Nat.le_refl _, by unfold maxLen; omega⟩
      have hoc := hgr.ocell hrK
      have hof := hgr.outer.frozen r
      have HR2 := Lib.hid hR
      clear ho hgr hR hje
      obtain ⟨T, hT⟩ : ∃ T : Nat → Nat → GF.F, T = fun a => if a = r then accTo c r (sqF K l) K else sqF K l a := ⟨_, rfl⟩
      have hdep := GF.gjTo_dep (n := K) (a := ent (lst K T)) hrK (cF c r) (by unfold cF; rw [if_pos rfl]) (fun j hj => by
        rw [ent_lst T hrK hj, hT]
        show (if r = r then accTo c r (sqF K l) K else sqF K l r) j = _
        rw [if_pos rfl]
        refine GF.sm_congr fun a ha => ?_
        rw [ent_lst _ ha hj]
        by_cases e : a = r
        · subst e; unfold cF; rw [if_pos rfl, GF.F.zero_mul, GF.F.zero_mul]
        · rw [if_neg e])
      have hm : Mat (wr.setCell ⟨R, r, none⟩ (.slice (some ⟨w1.heap.size, 0, none⟩) K K)) (.slice (some ⟨R, 0, none⟩) K cap) (lst K T) := by
        have := HR2.out.mat hc1 hc2 (by omega) (by omega)
        rw [hT]; exact this
      have hbb := (HB1.out.trans (HB2.out.mono HB1.out.size)).setCell (p := ⟨R, r, none⟩) HG.out.baseR (.slice (some ⟨w1.heap.size, 0, none⟩) K K)
      have HDEP := Lib.hid hdep
      have HM := Lib.hid hm
      have HBB := Lib.hid hbb
      clear hT hdep hm hbb
      go_wp2_with fail
      refine (invert_sq (lst K T) K _ _ HM.out (lst_length _ _) h1 (by omega) (fun i hi => lst_rowlen _ hi)).mono ?_
      rintro e w6 (⟨u6, vy, hu6, rfl, hmy, hb6⟩ | ⟨hu6, rfl, hb6⟩)
      · exact absurd (HDEP.out.symm.trans hu6) (by simp)
      · have HB6 := Lib.hid hb6
        clear hb6 hu6
        go_wp2_with (go_at_call 12; (with_reducible refine (awake_any _).mono ?_); rintro e w' ⟨rfl, rfl⟩)
        go_ret
        exact ⟨rfl, ext HBB.out HB6.out⟩

end Go.Proofs.Ytpdjjodehahdoaa
