/- The walk of Invert, the program's. -/
import Derived.Test.YtojfeldafbabeaaC3
import Derived.Test.YtojfeldafbabeaaOwn
import Derived.Deep.DeepCutAuto
set_option linter.unusedVariables false
set_option linter.unusedSimpArgs false
set_option linter.unnecessarySimpa false
namespace Go.Proofs.Ytojfeldafbabeaa
open Go.RowKit Go.Mem Go.Deep

/-- the bytes of a list of rows, as elements of the field -/
def ent (rows : List (List Nat)) (i j : Nat) : GF.F := ⟨(rows.getD i []).getD j 0 % 256, Nat.mod_lt _ (by decide)⟩
def outRows (n : Nat) (u : Nat → Nat → GF.F) : List (List Nat) := (List.range n).map fun i => (List.range n).map fun j => (u i (n + j)).v
def InvPost (n : Nat) (rows : List (List Nat)) (w : World) (e : Ending) (w' : World) : Prop :=
  (∃ u v, GF.gjTo n (GF.aug n (ent rows)) n = some u ∧ e = .returned (.tuple #[v, .int .i64 0]) ∧ Mat w' v (outRows n u) ∧ Below w.heap.size w w') ∨
  (GF.gjTo n (GF.aug n (ent rows)) n = none ∧ e = .returned (.tuple #[.slice none 0 0, .int .i64 9]) ∧ Below w.heap.size w w')

theorem info29 : (Try.prog.info? 31).map (fun i => (i.zero, i.size, i.bytes)) = some (some (.slice none 0 0), 1, 24) := by kernel_rfl

theorem aug_cell {rows : List (List Nat)} {n k : Nat} {w : World} {v : Value} (hl : ∀ i, i < n → (rows.getD i []).length = n) (hb : Bytes w v (rows.getD k [])) (hk : k < n) (j : Nat) (hj : j < 2 * n) :
    (if j = n + k then Value.int .u8 1 else if 0 ≤ j ∧ j < 0 + (rows.getD k []).length then .int .u8 (((rows.getD k []).getD (j - 0) 0 : Nat) : Int) else .int .u8 0) = .int .u8 (((GF.aug n (ent rows) k j).v : Nat) : Int) := by
  rw [hl k hk]
  unfold GF.aug
  by_cases h1 : j < n
  · have := hb.lt j
    rw [if_neg (by omega), if_pos ⟨by omega, by omega⟩, if_pos h1]
    show _ = Value.int .u8 (((rows.getD k []).getD j 0 % 256 : Nat) : Int)
    rw [Nat.mod_eq_of_lt this, Nat.sub_zero]
  · rw [if_neg h1]
    by_cases h2 : j = n + k
    · subst h2
      rw [if_pos rfl, Nat.add_sub_cancel_left, GF.dl_self]; rfl
    · rw [if_neg h2, if_neg (by omega), GF.dl_ne (by omega)]; rfl

theorem gjTo_none_mono {n : Nat} {A : Nat → Nat → GF.F} {k : Nat} (h : GF.gjTo n A k = none) : ∀ d, GF.gjTo n A (k + d) = none
  | 0 => h
  | d + 1 => by
    show (match GF.gjTo n A (k + d) with | none => none | some u => _) = none
    rw [gjTo_none_mono h d]
theorem gjTo_stop {n : Nat} {A t : Nat → Nat → GF.F} {k : Nat} (h : GF.gjTo n A k = some t) (hk : k < n) (hz : ∀ a, k ≤ a → a < n → t a k = 0) : GF.gjTo n A n = none := by
  have h1 : GF.gjTo n A (k + 1) = none := by
    simp only [GF.gjTo, h]
    rw [GF.piv_none (by omega) hz, if_neg (by omega)]
  have := gjTo_none_mono h1 (n - (k + 1))
  rwa [show k + 1 + (n - (k + 1)) = n by omega] at this
theorem gjTo_go {n : Nat} {A t : Nat → Nat → GF.F} {k p : Nat} (h : GF.gjTo n A k = some t) (hkp : k ≤ p) (hp : p < n) (hz : ∀ a, k ≤ a → a < p → t a k = 0) (h0 : t p k ≠ 0) : GF.gjTo n A (k + 1) = some (GF.gj k p t) := by
  simp only [GF.gjTo, h]
  rw [GF.piv_unique hkp hp hz h0, if_pos hp]

/-- the rows below i have been cleared at column k -/
def elim (s : Nat → Nat → GF.F) (k i a b : Nat) : GF.F := if a ≠ k ∧ a < i then s a b + s a k * s k b else s a b
def elimTo (s : Nat → Nat → GF.F) (k i j a b : Nat) : GF.F := if a = i ∧ b < j then s i b + s i k * s k b else elim s k i a b
theorem elim_zero (s : Nat → Nat → GF.F) (k a b : Nat) : elim s k 0 a b = s a b := by unfold elim; rw [if_neg (by omega)]
theorem elim_at (s : Nat → Nat → GF.F) (k i b : Nat) : elim s k i i b = s i b := by unfold elim; rw [if_neg (by omega)]
theorem elim_pivot {s : Nat → Nat → GF.F} {k i a b : Nat} (h : i = k) : elim s k i a b = elim s k (i + 1) a b := by
  unfold elim
  by_cases e : a ≠ k ∧ a < i
  · rw [if_pos e, if_pos ⟨e.1, by omega⟩]
  · rw [if_neg e, if_neg (by omega)]
theorem elim_skip {s : Nat → Nat → GF.F} {k i a b : Nat} (h : s i k = 0) : elim s k i a b = elim s k (i + 1) a b := by
  unfold elim
  by_cases e : a ≠ k ∧ a < i
  · rw [if_pos e, if_pos ⟨e.1, by omega⟩]
  · rw [if_neg e]
    by_cases e2 : a ≠ k ∧ a < i + 1
    · have : a = i := by omega
      subst this
      rw [if_pos e2, h, GF.F.zero_mul, GF.F.add_zero]
    · rw [if_neg e2]
theorem elimTo_zero (s : Nat → Nat → GF.F) (k i a b : Nat) : elimTo s k i 0 a b = elim s k i a b := by unfold elimTo; rw [if_neg (by omega)]
theorem elimTo_self (s : Nat → Nat → GF.F) (k i j : Nat) : elimTo s k i j i j = s i j := by unfold elimTo; rw [if_neg (by omega), elim_at]
theorem elimTo_pivot {s : Nat → Nat → GF.F} {k i j b : Nat} (h : ¬ i = k) : elimTo s k i j k b = s k b := by
  unfold elimTo; rw [if_neg (by omega)]; unfold elim; rw [if_neg (by omega)]
theorem elimTo_step (s : Nat → Nat → GF.F) (k i j a b : Nat) : (if a = i ∧ b = j then s i j + s i k * s k j else elimTo s k i j a b) = elimTo s k i (j + 1) a b := by
  unfold elimTo
  by_cases e : a = i ∧ b = j
  · rw [if_pos e, if_pos ⟨e.1, by omega⟩, e.2]
  · rw [if_neg e]
    by_cases e2 : a = i ∧ b < j
    · rw [if_pos e2, if_pos ⟨e2.1, by omega⟩]
    · rw [if_neg e2, if_neg (by omega)]
theorem elimTo_all {s : Nat → Nat → GF.F} {k i m a b : Nat} (h : ¬ i = k) (hb : b < m) : elimTo s k i m a b = elim s k (i + 1) a b := by
  unfold elimTo
  by_cases e : a = i
  · subst e
    rw [if_pos ⟨rfl, hb⟩]
    unfold elim
    rw [if_pos ⟨h, by omega⟩]
  · rw [if_neg (fun x => e x.1)]
    unfold elim
    by_cases e2 : a ≠ k ∧ a < i
    · rw [if_pos e2, if_pos ⟨e2.1, by omega⟩]
    · rw [if_neg e2, if_neg (by omega)]
theorem elim_all {s : Nat → Nat → GF.F} {k n a b : Nat} (ha : a < n) : elim s k n a b = if a = k then s a b else s a b + s a k * s k b := by
  unfold elim
  by_cases e : a = k
  · rw [if_neg (fun x => x.1 e), if_pos e]
  · rw [if_pos ⟨e, ha⟩, if_neg e]
theorem gj_of (t : Nat → Nat → GF.F) (p k a b : Nat) :
    (if a = k then (fun a b => if a = k then ((fun i => t (GF.sw p k i)) k k).inv * (fun i => t (GF.sw p k i)) k b else (fun i => t (GF.sw p k i)) a b) a b
      else (fun a b => if a = k then ((fun i => t (GF.sw p k i)) k k).inv * (fun i => t (GF.sw p k i)) k b else (fun i => t (GF.sw p k i)) a b) a b +
        (fun a b => if a = k then ((fun i => t (GF.sw p k i)) k k).inv * (fun i => t (GF.sw p k i)) k b else (fun i => t (GF.sw p k i)) a b) a k * (fun a b => if a = k then ((fun i => t (GF.sw p k i)) k k).inv * (fun i => t (GF.sw p k i)) k b else (fun i => t (GF.sw p k i)) a b) k b) = GF.gj k p t a b := by
  have e : GF.sw p k k = p := by simp [GF.sw]
  unfold GF.gj
  by_cases h : a = k
  · simp [h, e]
  · simp [h, e]

theorem app_news {w : World} {b n : Nat} {f : Nat → GF.F} (h : ∀ j, j < n → w.cell? ⟨b, n + j, none⟩ = some (.int .u8 (((f (n + j)).v : Nat) : Int))) (j : Nat) (u : Value)
    (hu : ((List.range n).map fun j => Value.int .u8 (((f (n + j)).v : Nat) : Int))[j]? = some u) : w.cell? ((⟨b, n, none⟩ : Addr).add j) = some u := by
  have hj : j < n := by
    rcases Nat.lt_or_ge j n with h | h
    · exact h
    · rw [List.getElem?_eq_none (by simpa using h)] at hu; cases hu
  have hadd : (⟨b, n, none⟩ : Addr).add j = ⟨b, n + j, none⟩ := by unfold Addr.add; split <;> simp_all
  rw [hadd, h j hj, ← hu]
  simp [hj]
theorem app_one {n : Nat} {f : Nat → GF.F} (u : Value) (hu : u ∈ (List.range n).map fun j => Value.int .u8 (((f (n + j)).v : Nat) : Int)) : u.oneCell' = true := by
  obtain ⟨j, _, rfl⟩ := List.mem_map.1 hu
  rfl

set_option maxHeartbeats 4000000 in
set_option maxRecDepth 100000 in
theorem invert_sq (rows : List (List Nat)) (n : Nat) (vr : Value) (w : World) (hr : Mat w vr rows) (hn : rows.length = n) (h1 : 1 ≤ n) (h32 : n ≤ 32) (hl : ∀ i, i < n → (rows.getD i []).length = n) :
    Calls Try.prog 21 #[vr] w (InvPost n rows w) := by
  obtain ⟨ra, rcap, rfl, hrl⟩ := hr.open
  rw [hn] at hr hrl ⊢
  obtain ⟨ob, oo, x0, rfl, hob, _, _⟩ := hr.cell (i := 0) (by omega)
  have hn0 : ((n : Int) == 0) = false := by rw [beq_eq_false_iff_ne]; omega
  have hnn : ((n : Int) != (n : Int)) = false := by simp
  have hmk := run_make_row' (P := Try.prog) 22 31 (.slice none 0 0) 24 Try.underlying22 info29 rfl .i64 .i64 n (by omega) (by omega)
  have hmk2 := run_make_row' (P := Try.prog) 31 5 (.int .u8 0) 1 Try.underlying31 info5 rfl .i64 .i64 (2 * n) (by omega) (by omega)
  rw [show ((2 * n : Nat) : Int) = 2 * (n : Int) by omega] at hmk2
  have HR := Lib.hid hr
  have HL := Lib.hid hl
  have HN := Lib.hid hn
  clear hr hl hn
  go_enter Try.func21, Try.ntmps21
  go_wp2_with fail
  go_loopw [30] (fun i wr => ∃ k : Nat, k ≤ n ∧ i = .int .i64 k ∧ Below w.heap.size w wr ∧ wr.heap.size = w.heap.size + 1 + k ∧ Own wr w.heap.size n (fun i => if i < k then .slice (some ⟨w.heap.size + 1 + i, 0, none⟩) (2 * n) (2 * n) else .slice none 0 0) ∧
      Grid wr w.heap.size w.heap.size k (2 * n) (fun i => w.heap.size + 1 + i) (fun _ => 2 * n) (GF.aug n (ent rows))) (fun i _ => n - (intOf i).toNat)
  case atStart =>
    have ho : Own (w.alloc (.cells (madeCells #[.slice none 0 0] n) 31)) w.heap.size n (fun _ => .slice none 0 0) := Own.of_row (World.rowIs_made w (.slice none 0 0) n 31)
    exact ⟨0, by omega, rfl, (Below.refl _ _).alloc (Nat.le_refl _) _, by simp, ho.congr (fun i _ => by simp), Grid.empty _ _ _ _ _ _ _ ho (Nat.le_refl _)⟩
  case round =>
    obtain ⟨k, hk, rfl, hbel, hsz, hown, hgrid⟩ := hrel
    have HB := Lib.hid hbel
    have HZ := Lib.hid hsz
    have HO := Lib.hid hown
    have HG := Lib.hid hgrid
    clear hbel hsz hown hgrid
    by_cases hkn : k < n
    · obtain ⟨ob', oo', xk, he, hob', hxk, hbk⟩ := (HR.out).cell (i := k) (by have := HN.out; omega)
      cases he
      obtain ⟨ka, kcap, rfl, hkl⟩ := hbk.open
      rw [HL.out k hkn] at hxk hkl hbk
      have hxk' := (HB.out.cell (p := ⟨ob, oo + k, none⟩) hob).trans hxk
      have HBK := Lib.hid hbk
      have hoc := HO.out.cell hkn
      have hof := HO.out.frozen k
      rw [if_neg (Nat.lt_irrefl k)] at hoc
      clear hxk hbk
      have hg1 : Grid ((wr.setCell ⟨w.heap.size, k, none⟩ (.slice (some ⟨wr.heap.size, 0, none⟩) (2 * n) (2 * n))).alloc (.cells (madeCells #[.int .u8 0] (2 * n)) 5)) w.heap.size w.heap.size k (2 * n) (fun i => w.heap.size + 1 + i) (fun _ => 2 * n) (GF.aug n (ent rows)) :=
        (HG.out.spare (Nat.le_refl _) _).below ((Below.refl _ _).alloc (Nat.le_refl _) _)
      have ho1 : Own ((wr.setCell ⟨w.heap.size, k, none⟩ (.slice (some ⟨wr.heap.size, 0, none⟩) (2 * n) (2 * n))).alloc (.cells (madeCells #[.int .u8 0] (2 * n)) 5)) w.heap.size n _ := (HO.out.set k _).alloc _
      have hB1 : Below w.heap.size w ((wr.setCell ⟨w.heap.size, k, none⟩ (.slice (some ⟨wr.heap.size, 0, none⟩) (2 * n) (2 * n))).alloc (.cells (madeCells #[.int .u8 0] (2 * n)) 5)) :=
        (HB.out.setCell (Nat.le_refl _) _).alloc (by have := HB.out.size; simpa using this) _
      have hbw := HBK.out.below hB1 (Nat.le_refl _)
      have hrw : Own ((wr.setCell ⟨w.heap.size, k, none⟩ (.slice (some ⟨wr.heap.size, 0, none⟩) (2 * n) (2 * n))).alloc (.cells (madeCells #[.int .u8 0] (2 * n)) 5)) wr.heap.size (2 * n) (fun _ => .int .u8 0) := by
        have := Own.of_row (World.rowIs_made (wr.setCell ⟨w.heap.size, k, none⟩ (.slice (some ⟨wr.heap.size, 0, none⟩) (2 * n) (2 * n))) (.int .u8 0) (2 * n) 5)
        simpa using this
      have HG1 := Lib.hid hg1
      have HO1 := Lib.hid ho1
      have HB1 := Lib.hid hB1
      clear hg1 ho1 hB1
      have HBW := Lib.hid hbw
      have HRW := Lib.hid hrw
      have hszl : w.heap.size < wr.heap.size := by have := HZ.out; omega
      clear hbw hrw
      go_wp2_with (refine wpList_copy_into rfl (.tmp 48) (.tmp 49) 31 31 rfl 5 Try.underlying31 (by kernel_rfl) wr.heap.size 0 (2 * n) (2 * n) ka n kcap rfl rfl (2 * n) _ HRW.out _ HBW.out (by rw [HL.out k hkn]; omega) (by rw [HL.out k hkn]; omega) ?_; intro w2 hw2; obtain ⟨hr2, he2, hs2, hb2⟩ := hw2.out; have hoc2 := ((HO1.out).of_block (he2 _ (by have := HZ.out; omega))).cell hkn; have hic2 := hr2.frozen (n + k); have hic3 := hr2.cell (i := n + k) (by omega); simp only [if_true] at hoc2; have HR2 := Lib.hid hr2; have HE2 := Lib.hid he2; have HS2 := Lib.hid hs2; have HB2 := Lib.hid hb2; clear hr2 he2 hs2 hb2 hw2)
      go_roundw
      case rel =>
        have hz := HZ.out
        have hgne : wr.heap.size ≠ w.heap.size := by omega
        have hO2 := ((HO1.out).of_block (w' := w2) (HE2.out _ (by omega))).setOther (a := ⟨wr.heap.size, n + k, none⟩) (by show w.heap.size ≠ wr.heap.size; omega) (.int .u8 1)
        have hG2 := HG1.out.beside (w' := w2.setCell ⟨wr.heap.size, n + k, none⟩ (.int .u8 1)) (g := wr.heap.size) hgne (fun i hi => by show w.heap.size + 1 + i ≠ wr.heap.size; omega) (fun b hb => by
          rw [blk_setCell_other _ _ _ _ hb]; exact HE2.out b hb)
        have hR2 := (HR2.out.set (n + k) (.int .u8 1)).congr (g := fun j => .int .u8 (((GF.aug n (ent rows) k j).v : Nat) : Int)) (fun j hj => aug_cell HL.out HBK.out hkn j hj)
        have hP := hG2.push hO2 hkn (by simp) hR2 (by omega) hgne (fun i hi => by show w.heap.size + 1 + i ≠ wr.heap.size; omega) ⟨Nat.le_refl _, by unfold maxLen; omega⟩
        refine ⟨k + 1, by omega, by go_num, (HB1.out.trans (HB2.out.mono (by omega))).setCell (by show w.heap.size ≤ wr.heap.size; omega) _, ?_, hO2.congr (fun i hi => ?_), hP.recast (fun i hi => ?_) (fun i hi => ?_) (fun i j hi hj => ?_)⟩
        · have := HS2.out; simp at this ⊢; omega
        · by_cases e : i = k
          · subst e; simp [hz]
          · by_cases e2 : i < k
            · simp [e, e2, show i < k + 1 by omega]
            · simp [e, e2, show ¬ i < k + 1 by omega]
        · by_cases e : i = k
          · subst e; simp [hz]
          · simp [e]
        · simp
        · by_cases e : i = k
          · subst e; simp
          · simp [e]
      case measure => simp [intOf]; omega
    · have hke : k = n := by omega
      have hg0 := HG.out
      rw [hke] at hg0
      have HG0 := Lib.hid hg0
      clear hg0
      have HKE := Lib.hid hke
      clear hke
      obtain ⟨A, hA⟩ : ∃ A, A = GF.aug n (ent rows) := ⟨_, rfl⟩
      have HA := Lib.hid hA
      clear hA
      go_wp2_with fail
      go_loopw [8] (fun i wq => ∃ (k : Nat) (t : Nat → Nat → GF.F) (G C : Nat → Nat), k ≤ n ∧ i = .int .i64 k ∧ Below w.heap.size w wq ∧ Hid (GF.gjTo n A k = some t) ∧ Grid wq w.heap.size w.heap.size n (2 * n) G C t) (fun i _ => n - (intOf i).toNat)
      case atStart => exact ⟨0, A, _, _, by omega, rfl, HB.out, rfl, by rw [HA.out]; exact HG0.out⟩
      case round =>
        rename World => wq
        obtain ⟨k2, t, G, C, hk2, rfl, hbel, hgj, hgrid⟩ := hrel
        have HB3 := Lib.hid hbel
        have HG3 := Lib.hid hgrid
        clear hbel hgrid
        by_cases hkn2 : k2 < n
        · go_wp2_with fail
          go_loop [9] (fun i => ∃ p : Nat, k2 ≤ p ∧ p ≤ n ∧ i = .int .i64 p ∧ Hid (∀ a, k2 ≤ a → a < p → t a k2 = 0)) (fun i => n - (intOf i).toNat)
          case atStart => exact ⟨k2, by omega, by omega, rfl, fun a h1 h2 => by omega⟩
          case round =>
            obtain ⟨p, hkp, hpn, rfl, hz⟩ := hrel
            by_cases hp : p < n
            · have hoc := HG3.out.ocell hp
              have hic := HG3.out.icell hp (show k2 < 2 * n by omega)
              obtain ⟨x, hx⟩ : ∃ x, x = t p k2 := ⟨_, rfl⟩
              rw [← hx] at hic
              have HX := Lib.hid hx
              clear hx
              by_cases h0 : x.v = 0
              · have ht : (((x.v : Nat) : Int) == 0) = true := by rw [h0]; rfl
                have H0 := Lib.hid h0
                clear h0
                go_wp2_with fail
                go_round
                case rel => exact ⟨p + 1, by omega, by omega, by go_num, fun a h1 h2 => by
                  by_cases e : a = p
                  · subst e; rw [← HX.out]; exact GF.F.ext H0.out
                  · exact hz.out a h1 (by omega)⟩
                case measure => simp [intOf]; omega
              · have ht : (((x.v : Nat) : Int) == 0) = false := by rw [beq_eq_false_iff_ne]; omega
                have htn : ((p : Int) == (n : Int)) = false := by rw [beq_eq_false_iff_ne]; omega
                have H0 := Lib.hid h0
                clear h0
                have hock := HG3.out.ocell hkn2
                have hfr1 := HG3.out.outer.frozen p
                have hfr2 := HG3.out.outer.frozen k2
                go_upto_region 22 with (fail)
                go_cut [9] (fun s9 wx => s9 = .int .i64 p ∧ Below w.heap.size w wx ∧ Grid wx w.heap.size w.heap.size n (2 * n) (fun i => G (GF.sw p k2 i)) (fun i => C (GF.sw p k2 i)) (fun i => t (GF.sw p k2 i)))
                case first =>
                  have HSW := Lib.hid (HG3.out.drew.swap hp hkn2)
                  by_cases hpk : p = k2
                  · subst hpk
                    go_region
                    go_wp2_with fail
                    go_meet
                    exact ⟨rfl, (HB3.out.drew.setCell (Nat.le_refl _) _).setCell (Nat.le_refl _) _, HSW.out⟩
                  · go_region
                    go_wp2_with fail
                    go_meet
                    exact ⟨rfl, (HB3.out.drew.setCell (Nat.le_refl _) _).setCell (Nat.le_refl _) _, HSW.out⟩
                case rest =>
                  obtain ⟨rfl, hbel4, hgrid4⟩ := hcut
                  have HB4 := Lib.hid hbel4
                  obtain ⟨u, hu⟩ : ∃ u, u = fun i => t (GF.sw p k2 i) := ⟨_, rfl⟩
                  obtain ⟨G1, hG1⟩ : ∃ u, u = fun i => G (GF.sw p k2 i) := ⟨_, rfl⟩
                  obtain ⟨C1, hC1⟩ : ∃ u, u = fun i => C (GF.sw p k2 i) := ⟨_, rfl⟩
                  rw [← hu, ← hG1, ← hC1] at hgrid4
                  have HG4 := Lib.hid hgrid4
                  have HU := Lib.hid hu
                  have hukk : (u k2 k2).v ≠ 0 := by
                    rw [HU.out]; show (t (GF.sw p k2 k2) k2).v ≠ 0
                    rw [show GF.sw p k2 k2 = p by simp [GF.sw], ← HX.out]; exact H0.out
                  clear hu hG1 hC1 hbel4 hgrid4 hoc hic hock hfr1 hfr2
                  have HUK := Lib.hid hukk
                  clear hukk
                  have hc4 := HG4.out.ocell hkn2
                  have hi4 := HG4.out.icell hkn2 (show k2 < 2 * n by omega)
                  obtain ⟨y, hy⟩ : ∃ y, y = u k2 k2 := ⟨_, rfl⟩
                  rw [← hy] at hi4
                  have HY := Lib.hid hy
                  clear hy
                  have ylt := y.lt
                  have y0 : y.v ≠ 0 := by rw [HY.out]; exact HUK.out
                  have Y0 := Lib.hid y0
                  clear y0
                  go_wp2_with (go_at_call 36; (with_reducible refine (inv_nz y.v _ ylt Y0.out).mono ?_); rintro e w' ⟨rfl, rfl⟩)
                  rename World => w4
                  go_loopw [114] (fun q wy => ∃ j : Nat, j ≤ 2 * n ∧ q = .int .i64 j ∧ Below w.heap.size w wy ∧ Grid wy w.heap.size w.heap.size n (2 * n) G1 C1 (fun a b => if a = k2 ∧ b < j then y.inv * u k2 b else u a b)) (fun q _ => 2 * n - (intOf q).toNat)
                  case atStart => exact ⟨0, by omega, rfl, HB4.out, HG4.out.congr (fun a b _ _ => by rw [if_neg (by omega)])⟩
                  case round =>
                    rename World => wy
                    obtain ⟨j, hj, rfl, hb5, hg5⟩ := hrel
                    have HB5 := Lib.hid hb5
                    have HG5 := Lib.hid hg5
                    clear hb5 hg5 hc4 hi4
                    by_cases hj2 : j < 2 * n
                    · have hc5 := HG5.out.ocell hkn2
                      have hi5 := HG5.out.icell hkn2 hj2
                      have hf5 := (HG5.out.inner k2 hkn2).frozen j
                      rw [if_neg (by omega)] at hi5
                      obtain ⟨z, hz5⟩ : ∃ z, z = u k2 j := ⟨_, rfl⟩
                      rw [← hz5] at hi5
                      have HZ5 := Lib.hid hz5
                      have zlt := z.lt
                      clear hz5
                      go_wp2_with fail
                      refine wp_region_still_tail 15 (by kernel_rfl) (by kernel_rfl) ?_
                      simp only [List.take_succ_cons, List.take_zero, List.drop_succ_cons, List.drop_zero]
                      repeat still_step
                      still_call (still (mul_any z.v (GF.inv y.v) _ zlt (GF.inv_lt _)))
                      repeat still_step
                      refine wpStill_nil ?_
                      go_wp2_with fail
                      go_roundw
                      case rel =>
                        exact ⟨j + 1, by omega, by go_num, HB5.out.drew.setCell (HG5.out.baseG k2 hkn2) _, (HG5.out.drew.set hkn2 j (z * y.inv)).congr (fun a b _ _ => by
                          by_cases e1 : a = k2
                          · subst e1
                            by_cases e2 : b = j
                            · subst e2; simp [GF.F.mul_comm, HZ5.out]
                            · by_cases e3 : b < j
                              · simp [e2, e3, show b < j + 1 by omega]
                              · simp [e2, e3, show ¬ b < j + 1 by omega]
                          · simp [e1])⟩
                      case measure => simp [intOf]; omega
                    · obtain ⟨sg, hsg⟩ : ∃ sg : Nat → Nat → GF.F, sg = fun a b => if a = k2 then y.inv * u k2 b else u a b := ⟨_, rfl⟩
                      have HSG := Lib.hid hsg
                      have hg6 := HG5.out.congr (t' := sg) (fun a b _ hb => by
                        rw [hsg]
                        by_cases e1 : a = k2
                        · subst e1; simp [show b < j by omega]
                        · simp [e1])
                      have HG6 := Lib.hid hg6
                      clear hsg hg6
                      go_wp2_with fail
                      go_loopw [135] (fun q wx => ∃ i : Nat, i ≤ n ∧ q = .int .i64 i ∧ Below w.heap.size w wx ∧ Grid wx w.heap.size w.heap.size n (2 * n) G1 C1 (elim sg k2 i)) (fun q _ => n - (intOf q).toNat)
                      case atStart => exact ⟨0, by omega, rfl, HB5.out, HG6.out.congr (fun a b _ _ => by rw [elim_zero])⟩
                      case round =>
                        rename World => wx
                        obtain ⟨i, hi, rfl, hb7, hg7⟩ := hrel
                        have HB7 := Lib.hid hb7
                        have HG7 := Lib.hid hg7
                        clear hb7 hg7
                        by_cases hin : i < n
                        · have hc7 := HG7.out.ocell hin
                          have hi7 := HG7.out.icell hin (show k2 < 2 * n by omega)
                          rw [elim_at] at hi7
                          obtain ⟨f, hf⟩ : ∃ f, f = sg i k2 := ⟨_, rfl⟩
                          rw [← hf] at hi7
                          have HF := Lib.hid hf
                          clear hf
                          have flt := f.lt
                          by_cases hik : i = k2
                          · have ht : ((i : Int) != (k2 : Int)) = false := by rw [hik]; simp
                            have HIK := Lib.hid hik
                            clear hik
                            go_wp2_with fail
                            go_roundw
                            case rel => exact ⟨i + 1, by omega, by go_num, HB7.out, HG7.out.congr (fun a b _ _ => by rw [elim_pivot HIK.out])⟩
                            case measure => simp [intOf]; omega
                          · have ht : ((i : Int) != (k2 : Int)) = true := by rw [bne_iff_ne]; omega
                            by_cases hf0 : f.v = 0
                            · have ht2 : (((f.v : Nat) : Int) != 0) = false := by rw [hf0]; rfl
                              have HF0 := Lib.hid hf0
                              clear hf0
                              go_wp2_with fail
                              go_roundw
                              case rel => exact ⟨i + 1, by omega, by go_num, HB7.out, HG7.out.congr (fun a b _ _ => by rw [elim_skip (by rw [← HF.out]; exact GF.F.ext HF0.out)])⟩
                              case measure => simp [intOf]; omega
                            · have ht2 : (((f.v : Nat) : Int) != 0) = true := by rw [bne_iff_ne]; omega
                              go_wp2_with fail
                              go_loopw [157] (fun q wz => ∃ j : Nat, j ≤ 2 * n ∧ q = .int .i64 j ∧ Below w.heap.size w wz ∧ Grid wz w.heap.size w.heap.size n (2 * n) G1 C1 (elimTo sg k2 i j)) (fun q _ => 2 * n - (intOf q).toNat)
                              case atStart => exact ⟨0, by omega, rfl, HB7.out, HG7.out.congr (fun a b _ _ => by rw [elimTo_zero])⟩
                              case round =>
                                rename World => wz
                                obtain ⟨j8, hj8, rfl, hb8, hg8⟩ := hrel
                                have HB8 := Lib.hid hb8
                                have HG8 := Lib.hid hg8
                                clear hb8 hg8 hc7 hi7
                                by_cases hj9 : j8 < 2 * n
                                · have hc8 := HG8.out.ocell hin
                                  have hc9 := HG8.out.ocell hkn2
                                  have hi8 := HG8.out.icell hin hj9
                                  have hi9 := HG8.out.icell hkn2 hj9
                                  have hf8 := (HG8.out.inner i hin).frozen j8
                                  rw [elimTo_self] at hi8
                                  rw [elimTo_pivot hik] at hi9
                                  obtain ⟨z1, hz1⟩ : ∃ f, f = sg i j8 := ⟨_, rfl⟩
                                  obtain ⟨z2, hz2⟩ : ∃ f, f = sg k2 j8 := ⟨_, rfl⟩
                                  rw [← hz1] at hi8
                                  rw [← hz2] at hi9
                                  have HZ1 := Lib.hid hz1
                                  have HZ2 := Lib.hid hz2
                                  clear hz1 hz2
                                  have z2lt := z2.lt
                                  have hxor := Lib.hid (u8_xor_nat z1.v (GF.mul f.v z2.v) z1.lt (GF.mul_lt flt))
                                  go_wp2_with fail
                                  refine wp_region_still_tail 18 (by kernel_rfl) (by kernel_rfl) ?_
                                  simp only [List.take_succ_cons, List.take_zero, List.drop_succ_cons, List.drop_zero]
                                  repeat still_step
                                  still_call (still (mul_any f.v z2.v _ flt z2lt))
                                  repeat still_step
                                  refine wpStill_nil ?_
                                  go_wp2_with fail
                                  rw [hxor.out]
                                  go_roundw
                                  case rel =>
                                    exact ⟨j8 + 1, by omega, by go_num, HB8.out.drew.setCell (HG8.out.baseG i hin) _, (HG8.out.drew.set hin j8 (z1 + f * z2)).congr (fun a b _ _ => by
                                      rw [HZ1.out, HF.out, HZ2.out, elimTo_step])⟩
                                  case measure => simp [intOf]; omega
                                · have HJ9 := Lib.hid (show j8 = 2 * n by omega)
                                  go_wp2_with fail
                                  go_roundw
                                  case rel => exact ⟨i + 1, by omega, by go_num, HB8.out, HG8.out.congr (fun a b _ hb => by rw [HJ9.out, elimTo_all hik hb])⟩
                                  case measure => simp [intOf]; omega
                        · have HIN := Lib.hid (show i = n by omega)
                          go_wp2_with fail
                          go_roundw
                          case rel =>
                            exact ⟨k2 + 1, GF.gj k2 p t, G1, C1, by omega, by go_num, HB7.out, gjTo_go hgj.out hkp hp hz.out (fun e => by rw [HX.out, e] at H0; exact H0.out rfl), HG7.out.congr (fun a b ha hb => by
                              rw [HIN.out, elim_all ha, HSG.out, HY.out, HU.out]
                              exact gj_of t p k2 a b)⟩
                          case measure => simp [intOf]; omega
            · have hpe : p = n := by omega
              have HPE := Lib.hid hpe
              have htn : ((p : Int) == (n : Int)) = true := by rw [hpe]; simp
              have hfin := Lib.hid (gjTo_stop hgj.out hkn2 (by rw [← HPE.out]; exact hz.out))
              clear hpe
              go_wp2_with fail
              go_ret2
              exact .inr ⟨by rw [← HA.out]; exact hfin.out, rfl, HB3.out⟩
        · have HK9 := Lib.hid (show k2 = n by omega)
          have hB9 := HB3.out.size
          obtain ⟨i0, hi0, hz0, hz1, hz2⟩ := info_parts info5
          go_wp2_with fail
          go_loopw [184] (fun q wo => ∃ (i : Nat) (g c : Nat → Nat), i ≤ n ∧ q = .int .i64 i ∧ Below wq.heap.size wq wo ∧ Own wo wq.heap.size n (fun a => if a < i then .slice (some ⟨g a, 0, none⟩) n (c a) else .slice none 0 0) ∧
              Grid wo wq.heap.size wq.heap.size i n g c (fun a b => t a (n + b))) (fun q _ => n - (intOf q).toNat)
          case atStart =>
            have ho : Own (wq.alloc (.cells (madeCells #[.slice none 0 0] n) 31)) wq.heap.size n (fun _ => .slice none 0 0) := Own.of_row (World.rowIs_made wq (.slice none 0 0) n 31)
            exact ⟨0, fun _ => 0, fun _ => 0, by omega, rfl, (Below.refl _ _).alloc (Nat.le_refl _) _, ho.congr (fun a _ => by simp), Grid.empty _ _ _ _ _ _ _ ho (Nat.le_refl _)⟩
          case round =>
            rename World => wo
            obtain ⟨i, g, c, hi, rfl, hbel, hown, hgrid⟩ := hrel
            have HB4 := Lib.hid hbel
            have HO4 := Lib.hid hown
            have HG4 := Lib.hid hgrid
            clear hbel hown hgrid
            by_cases hin : i < n
            · have hgr := HG3.out.below HB4.out
              have hoc := hgr.ocell hin
              have hoo := HO4.out.cell hin
              have hof := HO4.out.frozen i
              rw [if_neg (Nat.lt_irrefl i)] at hoo
              have hnews := fun (j : Nat) (hj : j < n) => hgr.icell (i := i) (j := n + j) hin (by omega)
              have hcap := hgr.cap i hin
              have HNW := Lib.hid hnews
              have hszo := HB4.out.size
              clear hgr hnews
              go_wp2_with (at_builtin; refine wpList_append_own _ rfl (.const (.slice none 0 0)) (.tmp 194) 31 rfl wo.heap.size 5 i0 (.int .u8 0) 1 1 Try.underlying31 hi0 hz0 hz1 hz2 rfl (by decide) (.slice none 0 0) 0 [] rfl (World.ownsRow_nil _ _ _ _) ⟨G i, n, none⟩ _ _ ((List.range n).map fun j => .int .u8 (((t i (n + j)).v : Nat) : Int)) rfl (by simp; omega) (by intro j u hu; exact app_news HNW.out j u hu) (by intro u hu; exact app_one u hu) (by unfold maxLen; omega) (by omega) (Nat.le_refl _) ?_; intro v' w5 hown5 hgrow5 hnil5; obtain ⟨g5, cap5, rfl, hbg5, hnc5, hcm5, hog5⟩ := own_of_ownsRow hown5 (by omega); have hoo5 := (HO4.out.grown hgrow5 (by simp [Value.ownBlock])).cell hin; have hof5 := (HO4.out.grown hgrow5 (by simp [Value.ownBlock])).frozen i; rw [if_neg (Nat.lt_irrefl i)] at hoo5; have HO5 := Lib.hid (And.intro hog5 (And.intro hgrow5 (And.intro hnc5 (And.intro hcm5 hbg5)))); clear hown5 hgrow5 hnil5 hog5)
              rw [show 2 * n - n = n by omega]
              go_roundw
              case rel =>
                obtain ⟨hog5, hgrow5, hnc5, hcm5, hbg5⟩ := HO5.out
                have hOlt := HO4.out.lt
                have hog6 : Own w5 g5 n (fun j => .int .u8 (((t i (n + j)).v : Nat) : Int)) := by
                  refine (hog5.less (m' := n) (by omega)).congr fun j hj => ?_
                  simp [hj]
                have hO6 := (HO4.out.grown hgrow5 (by simp [Value.ownBlock])).set i (.slice (some ⟨g5, 0, none⟩) n cap5)
                have hG5 := (HG4.out.of_blocks (w' := w5) (fun b hb => hgrow5.block b hb (by simp [Value.ownBlock]))).spare (Nat.le_refl _) (.slice (some ⟨g5, 0, none⟩) n cap5)
                have hP := hG5.push hO6 hin (by simp) (hog6.setOther (a := ⟨wq.heap.size, i, none⟩) (by show g5 ≠ wq.heap.size; omega) _) (by omega) (by omega) (fun a ha => by have := (HG4.out.inner a ha).lt; omega) ⟨by omega, hcm5⟩
                exact ⟨i + 1, _, _, by omega, by go_num, (HB4.out.grown hgrow5 hszo (by simp [Value.ownBlock])).setCell (Nat.le_refl _) _, hO6.congr (fun a ha => by
                    by_cases e : a = i
                    · subst e; simp
                    · by_cases e2 : a < i
                      · simp [e, e2, show a < i + 1 by omega]
                      · simp [e, e2, show ¬ a < i + 1 by omega]), hP.congr (fun a b _ _ => by
                    by_cases e : a = i
                    · subst e; simp
                    · simp [e])⟩
              case measure => simp [intOf]; omega
            · have hie : i = n := by omega
              have hg9 := HG4.out
              rw [hie] at hg9
              have HG9 := Lib.hid hg9
              clear hg9 hie
              go_wp2_with fail
              go_ret2
              exact .inl ⟨t, _, by rw [← HA.out]; exact (by have := hgj.out; rw [HK9.out] at this; exact this), rfl, HG9.out.mat (Nat.le_refl _) (by unfold maxLen; omega) (by omega) (by omega), HB3.out.trans (HB4.out.mono hB9)⟩

end Go.Proofs.Ytojfeldafbabeaa
