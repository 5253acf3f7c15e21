/- The walks of coefficients and of the reference's factors. -/
import Derived.Test.YtojfeldafbabeaaK2
import Derived.Test.YtojfeldafbabeaaOwn
import Derived.Test.YtojfeldafbabeaaC1
import Derived.Outline
set_option linter.unusedVariables false
set_option linter.unusedSimpArgs false
set_option linter.unnecessarySimpa false
namespace Go.Proofs.Ytojfeldafbabeaa
open Go.RowKit Go.Mem Go.Deep

/-- the factors of the data rows in the row with index at of a code word -/
def genAt (k a i : Nat) : Nat := if a < k then (if i = a then 1 else 0) else coefI ((a : Int) - k) i
def genRow (k a : Nat) : List Nat := (List.range k).map (genAt k a)
theorem genAt_lt (k a i : Nat) : genAt k a i < 256 := by
  unfold genAt
  split
  · split <;> decide
  · exact coefI_lt _ _
theorem genRow_lt (k a : Nat) : ∀ x ∈ genRow k a, x < 256 := by
  intro x hx
  obtain ⟨i, _, rfl⟩ := List.mem_map.1 hx
  exact genAt_lt k a i
theorem genRow_getD (k a i : Nat) (hi : i < k) : (genRow k a).getD i 0 = genAt k a i := by simp [genRow, hi]

theorem made_set (w : World) (z x : Value) (k a : Nat) (t : TypeId) : (w.alloc (.cells ((madeCells #[z] k).setIfInBounds a x) t)).rowIs w.heap.size t k (fun i => if i = a then x else z) := by
  obtain ⟨c, hc, hs, hg⟩ := World.rowIs_made w z k t
  rw [blk_alloc_new] at hc
  cases hc
  refine ⟨_, blk_alloc_new _ _, by simp [hs], fun i hi => ?_⟩
  rw [Array.getElem?_setIfInBounds]
  by_cases e : a = i
  · subst e; simp [hs, hi]
  · rw [if_neg e, hg i hi]; simp [Ne.symm e]

def RowPost (l : List Nat) (w : World) (e : Ending) (w' : World) : Prop := ∃ v, e = .returned v ∧ Bytes w' v l ∧ FreshAt w w' v ∧ Below w.heap.size w w'

set_option maxHeartbeats 1000000 in
theorem coeffs_any (k a : Nat) (w : World) (hk : k ≤ 6) (ha : a ≤ 8) : Calls Try.prog 42 #[.int .i64 k, .int .i64 a] w (RowPost (genRow k a) w) := by
  have hmk := run_make_row' (P := Try.prog) 31 5 (.int .u8 0) 1 Try.underlying31 info5 rfl .i64 .i64 k (by omega) (by omega)
  by_cases hak : a < k
  · have hc0 : (w.alloc (.cells (madeCells #[.int .u8 0] k) 5)).cell? ⟨w.heap.size, a, none⟩ = some (.int .u8 0) := (World.rowIs_made w (.int .u8 0) k 5).cell hak
    go_enter Try.func42, Try.ntmps42
    go_wp2_with fail
    have hbs := Bytes.of_row (l := genRow k a) ((made_set w (.int .u8 0) (.int .u8 1) k a 5).congr (fun i hi => by
      rw [genRow_getD k a i hi]
      unfold genAt
      rw [if_pos hak]
      split <;> rfl)) (by simp [genRow]) (by unfold maxLen; omega) (by simp [genRow]; omega) (genRow_lt k a)
    go_ret
    exact ⟨_, rfl, by simpa [genRow] using hbs, ⟨_, _, _, _, rfl, Nat.le_refl _, blk_alloc_new _ _⟩, (Below.refl _ _).alloc (Nat.le_refl _) _⟩
  · have hd : decide ((a : Int) < (k : Int)) = false := by simp; omega
    go_enter Try.func42, Try.ntmps42
    go_wp2_with fail
    have ha6 : (a : Int) - k ≤ 8 := by omega
    go_loopw [18] (fun i wr => ∃ j : Nat, j ≤ k ∧ i = .int .i64 j ∧ Below w.heap.size w wr ∧ wr.rowIs w.heap.size 5 k (fun q => .int .u8 ((if q < j then genAt k a q else 0 : Nat) : Int))) (fun i _ => k - (intOf i).toNat)
    case atStart => exact ⟨0, by omega, rfl, (Below.refl _ _).alloc (Nat.le_refl _) _, (World.rowIs_made w (.int .u8 0) k 5).congr (fun i _ => by simp)⟩
    case round =>
      rename World => wr
      obtain ⟨j, hj, rfl, hbel, hrow⟩ := hrel
      have HB := Lib.hid hbel
      have HRow := Lib.hid hrow
      clear hbel hrow
      by_cases hjk : j < k
      · have hcell := HRow.out.cell hjk
        have hfr := HRow.out.frozen j
        go_wp2_with (go_at_call 16; refine (coef_any _ _ _).mono ?_; rintro e w1 ⟨rfl, rfl⟩)
        go_roundw
        case rel =>
          exact ⟨j + 1, by omega, by go_num, HB.out.setCell (Nat.le_refl _) _, (HRow.out.set j _).congr (fun i _ => by
            by_cases e : i = j
            · subst e; simp [genAt, hak]
            · rw [if_neg e]
              by_cases e2 : i < j
              · rw [if_pos e2, if_pos (by omega)]
              · rw [if_neg e2, if_neg (by omega)])⟩
        case measure => simp [intOf]; omega
      · have hjk' : j = k := by omega
        have hbs := Bytes.of_row (l := genRow k a) (HRow.out.congr (fun i hi => by rw [if_pos (by omega), genRow_getD k a i hi])) (by simp [genRow]) (by unfold maxLen; omega) (by simp [genRow]; omega) (genRow_lt k a)
        have HBS := Lib.hid hbs
        clear hbs hjk'
        go_wp2_with fail
        go_ret
        exact ⟨_, rfl, by simpa [genRow] using HBS.out, (by obtain ⟨c, hc, _⟩ := HRow.out; exact ⟨_, _, _, _, rfl, Nat.le_refl _, hc⟩), HB.out⟩

set_option maxHeartbeats 1000000 in
theorem factors_any (k a : Nat) (w : World) (hk : k ≤ 6) (ha : a ≤ 8) : Calls Try.prog 35 #[.int .i64 k, .int .i64 a] w (RowPost (genRow k a) w) := by
  have hmk := run_make_row' (P := Try.prog) 31 5 (.int .u8 0) 1 Try.underlying31 info5 rfl .i64 .i64 k (by omega) (by omega)
  go_enter Try.func35, Try.ntmps35
  go_wp2_with fail
  go_loopw [6] (fun i wr => ∃ j : Nat, j ≤ k ∧ i = .int .i64 j ∧ Below w.heap.size w wr ∧ wr.rowIs w.heap.size 5 k (fun q => .int .u8 ((if q < j then genAt k a q else 0 : Nat) : Int))) (fun i _ => k - (intOf i).toNat)
  case atStart => exact ⟨0, by omega, rfl, (Below.refl _ _).alloc (Nat.le_refl _) _, (World.rowIs_made w (.int .u8 0) k 5).congr (fun i _ => by simp)⟩
  case round =>
    rename World => wr
    obtain ⟨j, hj, rfl, hbel, hrow⟩ := hrel
    have HB := Lib.hid hbel
    have HRow := Lib.hid hrow
    clear hbel hrow
    by_cases hjk : j < k
    · have hcell := HRow.out.cell hjk
      have hfr := HRow.out.frozen j
      by_cases hak : a < k
      · have hd : decide ((k : Int) ≤ (a : Int)) = false := by simp; omega
        by_cases hja : j = a
        · subst hja
          go_wp2_with fail
          go_roundw
          case rel =>
            exact ⟨j + 1, by omega, by go_num, HB.out.setCell (Nat.le_refl _) _, (HRow.out.set j _).congr (fun i _ => by
              by_cases e : i = j
              · subst e; simp [genAt, hak]
              · rw [if_neg e]
                by_cases e2 : i < j
                · rw [if_pos e2, if_pos (by omega)]
                · rw [if_neg e2, if_neg (by omega)])⟩
          case measure => simp [intOf]; omega
        · have hne : ((j : Int) == (a : Int)) = false := by rw [beq_eq_false_iff_ne]; omega
          have HJA := Lib.hid hja
          clear hja
          go_wp2_with fail
          go_roundw
          case rel =>
            exact ⟨j + 1, by omega, by go_num, HB.out, HRow.out.congr (fun i _ => by
              by_cases e : i = j
              · subst e; simp [genAt, hak, HJA.out]
              · by_cases e2 : i < j
                · rw [if_pos e2, if_pos (by omega)]
                · rw [if_neg e2, if_neg (by omega)])⟩
          case measure => simp [intOf]; omega
      · have hd : decide ((k : Int) ≤ (a : Int)) = true := by simp; omega
        go_wp2_with (go_at_call 17; refine (refCoef_any _ _ _).mono ?_; rintro e w1 ⟨rfl, rfl⟩)
        go_roundw
        case rel =>
          exact ⟨j + 1, by omega, by go_num, HB.out.setCell (Nat.le_refl _) _, (HRow.out.set j _).congr (fun i _ => by
            by_cases e : i = j
            · subst e; simp [genAt, hak]
            · rw [if_neg e]
              by_cases e2 : i < j
              · rw [if_pos e2, if_pos (by omega)]
              · rw [if_neg e2, if_neg (by omega)])⟩
        case measure => simp [intOf]; omega
    · have hjk' : j = k := by omega
      have hbs := Bytes.of_row (l := genRow k a) (HRow.out.congr (fun i hi => by rw [if_pos (by omega), genRow_getD k a i hi])) (by simp [genRow]) (by unfold maxLen; omega) (by simp [genRow]; omega) (genRow_lt k a)
      have HBS := Lib.hid hbs
      clear hbs hjk'
      go_wp2_with fail
      go_ret
      exact ⟨_, rfl, by simpa [genRow] using HBS.out, (by obtain ⟨c, hc, _⟩ := HRow.out; exact ⟨_, _, _, _, rfl, Nat.le_refl _, hc⟩), HB.out⟩
end Go.Proofs.Ytojfeldafbabeaa
