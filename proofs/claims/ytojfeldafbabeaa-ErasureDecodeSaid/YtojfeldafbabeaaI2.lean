/- The walks of Invert where it refuses. -/
import Derived.Test.YtojfeldafbabeaaI1
set_option linter.unusedVariables false
set_option linter.unusedSimpArgs false
set_option linter.unnecessarySimpa false
namespace Go.Proofs.Ytojfeldafbabeaa
open Go.RowKit Go.Mem Go.Deep

set_option maxHeartbeats 4000000 in
set_option maxRecDepth 100000 in
theorem invert_bad (rows : List (List Nat)) (n p : Nat) (vr : Value) (w : World) (hr : Mat w vr rows) (hn : rows.length = n) (h1 : 1 ≤ n) (h32 : n ≤ 32) (hp : p < n) (hl : ∀ i, i < p → (rows.getD i []).length = n) (hbad : (rows.getD p []).length ≠ n) :
    Calls Try.prog 21 #[vr] w (Gave 1 (fun _ v => v = .slice none 0 0) w) := by
  obtain ⟨ra, rcap, rfl, hrl⟩ := hr.open
  rw [hn] at hr hrl ⊢
  obtain ⟨ob, oo, x0, rfl, hob, _, _⟩ := hr.cell (i := 0) (by omega)
  have hn0 : ((n : Int) == 0) = false := by rw [beq_eq_false_iff_ne]; omega
  have hnn : ((n : Int) != (n : Int)) = false := by simp
  have hmk := run_make_row' (P := Try.prog) 22 31 (.slice none 0 0) 24 Try.underlying22 info29 rfl .i64 .i64 n (by omega) (by omega)
  have hmk2 := run_make_row' (P := Try.prog) 31 5 (.int .u8 0) 1 Try.underlying31 info5 rfl .i64 .i64 (2 * n) (by omega) (by omega)
  rw [show ((2 * n : Nat) : Int) = 2 * (n : Int) by omega] at hmk2
  have HR := Lib.hid hr
  have HL := Lib.hid hl
  have HN := Lib.hid hn
  have HBD := Lib.hid hbad
  clear hr hl hn hbad
  go_enter Try.func21, Try.ntmps21
  go_wp2_with fail
  go_loopw [30] (fun i wr => ∃ k : Nat, k ≤ p ∧ i = .int .i64 k ∧ Below w.heap.size w wr ∧ wr.heap.size = w.heap.size + 1 + k ∧ Own wr w.heap.size n (fun i => if i < k then .slice (some ⟨w.heap.size + 1 + i, 0, none⟩) (2 * n) (2 * n) else .slice none 0 0)) (fun i _ => p - (intOf i).toNat)
  case atStart =>
    have ho : Own (w.alloc (.cells (madeCells #[.slice none 0 0] n) 31)) w.heap.size n (fun _ => .slice none 0 0) := Own.of_row (World.rowIs_made w (.slice none 0 0) n 31)
    exact ⟨0, by omega, rfl, (Below.refl _ _).alloc (Nat.le_refl _) _, by simp, ho.congr (fun i _ => by simp)⟩
  case round =>
    obtain ⟨k, hk, rfl, hbel, hsz, hown⟩ := hrel
    have HB := Lib.hid hbel
    have HZ := Lib.hid hsz
    have HO := Lib.hid hown
    clear hbel hsz hown
    by_cases hkp : k < p
    · have hkn : k < n := by omega
      obtain ⟨ob', oo', xk, he, hob', hxk, hbk⟩ := (HR.out).cell (i := k) (by have := HN.out; omega)
      cases he
      obtain ⟨ka, kcap, rfl, hkl⟩ := hbk.open
      rw [HL.out k hkp] at hxk hkl hbk
      have hxk' := (HB.out.cell (p := ⟨ob, oo + k, none⟩) hob).trans hxk
      have HBK := Lib.hid hbk
      have hoc := HO.out.cell hkn
      have hof := HO.out.frozen k
      rw [if_neg (Nat.lt_irrefl k)] at hoc
      clear hxk hbk
      have ho1 : Own ((wr.setCell ⟨w.heap.size, k, none⟩ (.slice (some ⟨wr.heap.size, 0, none⟩) (2 * n) (2 * n))).alloc (.cells (madeCells #[.int .u8 0] (2 * n)) 5)) w.heap.size n _ := (HO.out.set k _).alloc _
      have hB1 : Below w.heap.size w ((wr.setCell ⟨w.heap.size, k, none⟩ (.slice (some ⟨wr.heap.size, 0, none⟩) (2 * n) (2 * n))).alloc (.cells (madeCells #[.int .u8 0] (2 * n)) 5)) :=
        (HB.out.setCell (Nat.le_refl _) _).alloc (by have := HB.out.size; simpa using this) _
      have hbw := HBK.out.below hB1 (Nat.le_refl _)
      have hrw : Own ((wr.setCell ⟨w.heap.size, k, none⟩ (.slice (some ⟨wr.heap.size, 0, none⟩) (2 * n) (2 * n))).alloc (.cells (madeCells #[.int .u8 0] (2 * n)) 5)) wr.heap.size (2 * n) (fun _ => .int .u8 0) := by
        have := Own.of_row (World.rowIs_made (wr.setCell ⟨w.heap.size, k, none⟩ (.slice (some ⟨wr.heap.size, 0, none⟩) (2 * n) (2 * n))) (.int .u8 0) (2 * n) 5)
        simpa using this
      have HO1 := Lib.hid ho1
      have HB1 := Lib.hid hB1
      clear ho1 hB1
      have HBW := Lib.hid hbw
      have HRW := Lib.hid hrw
      have hszl : w.heap.size < wr.heap.size := by have := HZ.out; omega
      clear hbw hrw
      go_wp2_with (refine wpList_copy_into rfl (.tmp 48) (.tmp 49) 31 31 rfl 5 Try.underlying31 (by kernel_rfl) wr.heap.size 0 (2 * n) (2 * n) ka n kcap rfl rfl (2 * n) _ HRW.out _ HBW.out (by rw [HL.out k hkp]; omega) (by rw [HL.out k hkp]; omega) ?_; intro w2 hw2; obtain ⟨hr2, he2, hs2, hb2⟩ := hw2.out; have hoc2 := ((HO1.out).of_block (he2 _ (by have := HZ.out; omega))).cell hkn; have hic2 := hr2.frozen (n + k); have hic3 := hr2.cell (i := n + k) (by omega); simp only [if_true] at hoc2; have HR2 := Lib.hid hr2; have HE2 := Lib.hid he2; have HS2 := Lib.hid hs2; have HB2 := Lib.hid hb2; clear hr2 he2 hs2 hb2 hw2)
      go_roundw
      case rel =>
        have hz := HZ.out
        have hO2 := ((HO1.out).of_block (w' := w2) (HE2.out _ (by omega))).setOther (a := ⟨wr.heap.size, n + k, none⟩) (by show w.heap.size ≠ wr.heap.size; omega) (.int .u8 1)
        refine ⟨k + 1, by omega, by go_num, (HB1.out.trans (HB2.out.mono (by omega))).setCell (by show w.heap.size ≤ wr.heap.size; omega) _, ?_, hO2.congr (fun i hi => ?_)⟩
        · have := HS2.out; simp at this ⊢; omega
        · by_cases e : i = k
          · subst e; simp [hz]
          · by_cases e2 : i < k
            · simp [e, e2, show i < k + 1 by omega]
            · simp [e, e2, show ¬ i < k + 1 by omega]
      case measure => simp [intOf]; omega
    · have hkn : k < n := by omega
      have hke : k = p := by omega
      obtain ⟨ob', oo', xk, he, hob', hxk, hbk⟩ := (HR.out).cell (i := k) (by have := HN.out; omega)
      cases he
      obtain ⟨ka, kcap, rfl, hkl⟩ := hbk.open
      obtain ⟨L, hL⟩ : ∃ L, L = (rows.getD k []).length := ⟨_, rfl⟩
      rw [← hL] at hxk hkl
      have hxk' := (HB.out.cell (p := ⟨ob, oo + k, none⟩) hob).trans hxk
      have hne : ((L : Int) != (n : Int)) = true := by rw [bne_iff_ne]; have := HBD.out; rw [← hke, ← hL] at this; omega
      clear hxk hbk hL hke
      go_wp2_with fail
      go_ret2
      exact ⟨_, rfl, rfl, HB.out⟩

set_option maxHeartbeats 1000000 in
set_option maxRecDepth 100000 in
theorem invert_out (rows : List (List Nat)) (n : Nat) (vr : Value) (w : World) (hr : Mat w vr rows) (hn : rows.length = n) (h : n = 0 ∨ 32 < n) :
    Calls Try.prog 21 #[vr] w (Gave 1 (fun _ v => v = .slice none 0 0) w) := by
  obtain ⟨ra, rcap, rfl, hrl⟩ := hr.open
  rw [hn] at hrl ⊢
  clear hr hn
  by_cases h0 : n = 0
  · have hn0 : ((n : Int) == 0) = true := by rw [h0]; rfl
    have H0 := Lib.hid h0
    clear h0 h
    go_enter Try.func21, Try.ntmps21
    go_wp2_with fail
    go_ret2
    exact ⟨_, rfl, rfl, Below.refl _ _⟩
  · have hn0 : ((n : Int) == 0) = false := by rw [beq_eq_false_iff_ne]; omega
    have h32 : 32 < n := by omega
    have H0 := Lib.hid h0
    clear h0 h
    go_enter Try.func21, Try.ntmps21
    go_wp2_with fail
    go_ret2
    exact ⟨_, rfl, rfl, Below.refl _ _⟩

/-- where Invert takes the matrix -/
def Sq (rows : List (List Nat)) : Prop := 1 ≤ rows.length ∧ rows.length ≤ 32 ∧ ∀ i, i < rows.length → (rows.getD i []).length = rows.length
theorem not_sq {rows : List (List Nat)} (h : ¬ Sq rows) : (rows.length = 0 ∨ 32 < rows.length) ∨
    (1 ≤ rows.length ∧ rows.length ≤ 32 ∧ ∃ p, p < rows.length ∧ (∀ i, i < p → (rows.getD i []).length = rows.length) ∧ (rows.getD p []).length ≠ rows.length) := by
  by_cases h1 : rows.length = 0 ∨ 32 < rows.length
  · exact .inl h1
  · right
    refine ⟨by omega, by omega, ?_⟩
    have key : ∀ n, n ≤ rows.length → (∀ i, i < n → (rows.getD i []).length = rows.length) ∨
        ∃ p, p < rows.length ∧ (∀ i, i < p → (rows.getD i []).length = rows.length) ∧ (rows.getD p []).length ≠ rows.length := by
      intro n
      induction n with
      | zero => exact fun _ => .inl fun i hi => by omega
      | succ n ih =>
        intro hn
        rcases ih (by omega) with ih | ih
        · by_cases e : (rows.getD n []).length = rows.length
          · refine .inl fun i hi => ?_
            by_cases hin : i = n
            · rw [hin]; exact e
            · exact ih i (by omega)
          · exact .inr ⟨n, by omega, ih, e⟩
        · exact .inr ih
    rcases key rows.length (Nat.le_refl _) with k | k
    · exact absurd ⟨by omega, by omega, k⟩ h
    · exact k
theorem invert_fail (rows : List (List Nat)) (vr : Value) (w : World) (hr : Mat w vr rows) (h : ¬ Sq rows) :
    Calls Try.prog 21 #[vr] w (Gave 1 (fun _ v => v = .slice none 0 0) w) := by
  rcases not_sq h with h | ⟨h1, h2, p, hp, hl, hbad⟩
  · exact invert_out rows _ vr w hr rfl h
  · exact invert_bad rows _ p vr w hr rfl h1 h2 hp hl hbad

end Go.Proofs.Ytojfeldafbabeaa
