/- The walk of shape: a code and some data. -/
import Derived.Test.YtojfeldafbabeaaAw
set_option linter.unusedVariables false
set_option linter.unusedSimpArgs false
set_option linter.unnecessarySimpa false
namespace Go.Proofs.Ytojfeldafbabeaa
open Go.RowKit Go.Mem Go.Deep

def shK (k : Nat) : Nat := 1 + k % 6
def shM (k m : Nat) : Nat := if 8 < shK k + m % 5 then 8 - shK k else m % 5
def shN (s : Nat) : Nat := s % 20
def ShapePost (a b n : Nat) (w : World) (e : Ending) (w' : World) : Prop := ∃ (data : List (List Nat)) (v : Value) (vs : List Value), e = .returned (.tuple #[.int .i64 a, .int .i64 b, v]) ∧ RowsO w' w.heap.size 31 5 v vs data ∧ Below w.heap.size w w' ∧ data.length = a ∧ ∀ i, i < a → (data.getD i []).length = n
theorem sh_code (k m : Nat) : codeB (shK k) (shM k m) = true := by
  unfold shM shK codeB
  simp only [Bool.and_eq_true, decide_eq_true_eq]
  split <;> omega

set_option maxHeartbeats 1000000 in
theorem shape_any (k m s : Nat) (l : List Nat) (vl : Value) (w : World) (hk : k < 256) (hm : m < 256) (hs : s < 256) (hl : Bytes w vl l) :
    Calls Try.prog 18 #[.int .u8 k, .int .u8 m, .int .u8 s, vl] w (ShapePost (shK k) (shM k m) (shN s) w) := by
  obtain ⟨la, lcap, rfl, hll⟩ := hl.open
  obtain ⟨q, hq⟩ : ∃ q, q = l.length := ⟨_, rfl⟩
  rw [← hq] at hl hll ⊢
  have HQ := Lib.hid hq
  have HL := Lib.hid hl
  clear hq hl
  obtain ⟨a0, ha0⟩ : ∃ a, a = k % 6 := ⟨_, rfl⟩
  obtain ⟨b0, hb0⟩ : ∃ b, b = m % 5 := ⟨_, rfl⟩
  obtain ⟨n, hn⟩ : ∃ n, n = shN s := ⟨_, rfl⟩
  have ha : shK k = 1 + a0 := by unfold shK; rw [ha0]
  have hb : shM k m = if 8 < 1 + a0 + b0 then 8 - (1 + a0) else b0 := by unfold shM; rw [ha, hb0]
  rw [← hn]
  have ha6 : a0 ≤ 5 := by omega
  have hn19 : n ≤ 19 := by rw [hn]; unfold shN; omega
  have hb4 : b0 ≤ 4 := by omega
  have hrk : (k : Int).tmod 6 = a0 := by rw [Int.tmod_eq_emod_of_nonneg (by omega)]; omega
  have hrm : (m : Int).tmod 5 = b0 := by rw [Int.tmod_eq_emod_of_nonneg (by omega)]; omega
  have hrs : (s : Int).tmod 20 = n := by rw [Int.tmod_eq_emod_of_nonneg (by omega), hn]; unfold shN; omega
  have hmk := run_make_row' (P := Try.prog) 31 5 (.int .u8 0) 1 Try.underlying31 info5 rfl .i64 .i64 n (by omega) (by omega)
  rw [ha, hb]
  clear ha0 hb0 hn ha hb
  by_cases h8 : 8 < 1 + a0 + b0
  · have hd0 : decide (8 < 1 + (a0 : Int) + b0) = true := by simp; omega
    rw [if_pos h8]
    obtain ⟨a, hA⟩ : ∃ a, a = 1 + a0 := ⟨_, rfl⟩
    obtain ⟨b, hB⟩ : ∃ b, b = 8 - (1 + a0) := ⟨_, rfl⟩
    rw [← hB, ← hA]
    have hA6 : 1 ≤ a ∧ a ≤ 6 := by omega
    obtain ⟨hA1, hA6⟩ := hA6
    have hAi : (1 : Int) + a0 = a := by omega
    have hBi : (8 : Int) - a = b := by omega
    rw [hAi] at hd0
    clear hA hB
    clear h8
    go_enter Try.func18, Try.ntmps18
    go_wp2_with fail
    clear hrk hrm hrs hAi hBi hd0
    go_loopw [14, 15] (fun v i wr => ∃ (j : Nat) (vs : List Value) (data : List (List Nat)), j ≤ a ∧ i = .int .i64 j ∧ Below w.heap.size w wr ∧ RowsO wr w.heap.size 31 5 v vs data ∧ data.length = j ∧ ∀ i, i < j → (data.getD i []).length = n) (fun _ i _ => a - (intOf i).toNat)
    case atStart => exact ⟨0, [], [], by omega, rfl, Below.refl _ _, RowsO.nil _ _ _ _, rfl, fun i hi => by omega⟩
    case round =>
      rename World => wr
      obtain ⟨j, vs, data, hj, rfl, hbel, hrow, hdl, hdn⟩ := hrel
      have HB := Lib.hid hbel
      have HR := Lib.hid hrow
      have HDL := Lib.hid hdl
      have HDN := Lib.hid hdn
      clear hbel hrow hdl hdn
      by_cases hja : j < a
      · have hgw := HB.out.size
        obtain ⟨P, hP⟩ : ∃ P : Nat, P = j * n := ⟨_, rfl⟩
        have hPi : (j : Int) * (n : Int) = (P : Int) := by rw [hP]; simp
        have hP95 : P ≤ 200 := by rw [hP]; exact Nat.le_trans (Nat.mul_le_mul (show j ≤ 10 by omega) hn19) (by decide)
        clear hP
        go_wp2_with fail
        go_loopw [17] (fun i wq => ∃ (t : Nat) (row : List Nat), t ≤ n ∧ i = .int .i64 t ∧ Below wr.heap.size wr wq ∧ wq.rowIs wr.heap.size 5 n (fun p => .int .u8 ((row.getD p 0 : Nat) : Int)) ∧ row.length = n ∧ ∀ x ∈ row, x < 256) (fun i _ => n - (intOf i).toNat)
        case atStart =>
          exact ⟨0, List.replicate n 0, by omega, rfl, (Below.refl _ _).alloc (Nat.le_refl _) _, (World.rowIs_made wr (.int .u8 0) n 5).congr (fun p hp => by simp [hp]), by simp, fun x hx => by simp at hx; omega⟩
        case round =>
          rename World => wq
          obtain ⟨t, row, ht, rfl, hbq, hrq, hrl, hrx⟩ := hrel
          have HBQ := Lib.hid hbq
          have HRQ := Lib.hid hrq
          have HRL := Lib.hid hrl
          have HRX := Lib.hid hrx
          have hlt := hrq.lt
          have hgq := hbq.size
          clear hbq hrq hrl hrx
          by_cases htn : t < n ∧ P + t < q
          · obtain ⟨htn, htq⟩ := htn
            obtain ⟨lb, lo, rfl, hlb, hlc⟩ := HL.out.cell (i := P + t) (by have := HQ.out; omega)
            have hlc' := (HBQ.out.cell (p := ⟨lb, lo + (P + t), none⟩) (by show lb < wr.heap.size; omega)).trans ((HB.out.cell (p := ⟨lb, lo + (P + t), none⟩) hlb).trans hlc)
            obtain ⟨x, hx⟩ : ∃ x, x = l.getD (P + t) 0 := ⟨_, rfl⟩
            rw [← hx] at hlc'
            have HX : x < 256 := by rw [hx]; exact HL.out.lt _
            have hrc := HRQ.out.cell htn
            have hrf := HRQ.out.frozen t
            have hd : decide ((P : Int) + t < q) = true := by simp; omega
            clear hlc hx
            go_wp2_with fail
            go_roundw
            case rel =>
              refine ⟨t + 1, row.set t x, by omega, by go_num, HBQ.out.setCell (Nat.le_refl _) _, (HRQ.out.set t _).congr (fun p hp => ?_), by simpa using HRL.out, fun y hy => ?_⟩
              · by_cases e : p = t
                · subst e; simp [HRL.out, hp]
                · simp [e, List.getElem?_set, show ¬ t = p by omega]
              · rcases List.mem_or_eq_of_mem_set hy with h | h
                · exact HRX.out y h
                · rw [h]; exact HX
            case measure => simp [intOf]; omega
          · by_cases htn2 : t < n
            · have hd : decide ((P : Int) + t < q) = false := by simp; omega
              go_wp2_with (at_builtin; refine app_row' (w0 := w) (W := wq) rfl (.tmp 67) (.tmp 69) rfl (l := row) j (HR.out.below HBQ.out) HDL.out (by omega) (by obtain ⟨c, hc, _⟩ := HRQ.out; exact Kept.fresh (by have := Bytes.of_row HRQ.out (by rw [HRL.out]; exact Nat.le_refl _) (by unfold maxLen; omega) (by rw [HRL.out]; omega) HRX.out; rw [HRL.out] at this; exact this) rfl hc) (HB.out.trans (HBQ.out.mono hgw)) (by omega) (by rfl) rfl rfl ?_; intro v' w4 h4)
              go_roundw
              case rel =>
                refine ⟨j + 1, _, _, by omega, by go_num, h4.out.2.1, h4.out.1, by simp [HDL.out], fun i hi => ?_⟩
                by_cases e : i < j
                · have := HDN.out i e
                  simpa [List.getElem?_append_left (show i < data.length by have := HDL.out; omega)] using this
                · have e2 : i = j := by omega
                  subst e2
                  simp [List.getElem?_append_right (show data.length ≤ i by have := HDL.out; omega), HDL.out, HRL.out]
              case measure => simp [intOf]; omega
            · go_wp2_with (at_builtin; refine app_row' (w0 := w) (W := wq) rfl (.tmp 67) (.tmp 69) rfl (l := row) j (HR.out.below HBQ.out) HDL.out (by omega) (by obtain ⟨c, hc, _⟩ := HRQ.out; exact Kept.fresh (by have := Bytes.of_row HRQ.out (by rw [HRL.out]; exact Nat.le_refl _) (by unfold maxLen; omega) (by rw [HRL.out]; omega) HRX.out; rw [HRL.out] at this; exact this) rfl hc) (HB.out.trans (HBQ.out.mono hgw)) (by omega) (by rfl) rfl rfl ?_; intro v' w4 h4)
              go_roundw
              case rel =>
                refine ⟨j + 1, _, _, by omega, by go_num, h4.out.2.1, h4.out.1, by simp [HDL.out], fun i hi => ?_⟩
                by_cases e : i < j
                · have := HDN.out i e
                  simpa [List.getElem?_append_left (show i < data.length by have := HDL.out; omega)] using this
                · have e2 : i = j := by omega
                  subst e2
                  simp [List.getElem?_append_right (show data.length ≤ i by have := HDL.out; omega), HDL.out, HRL.out]
              case measure => simp [intOf]; omega
      · obtain rfl : j = a := by omega
        go_wp2_with fail
        go_ret3
        exact ⟨data, _, _, rfl, HR.out, HB.out, HDL.out, HDN.out⟩
  · have hd0 : decide (8 < 1 + (a0 : Int) + b0) = false := by simp; omega
    rw [if_neg h8]
    obtain ⟨a, hA⟩ : ∃ a, a = 1 + a0 := ⟨_, rfl⟩
    rw [← hA]
    have hA6 : 1 ≤ a ∧ a ≤ 6 := by omega
    obtain ⟨hA1, hA6⟩ := hA6
    have hAi : (1 : Int) + a0 = a := by omega
    rw [hAi] at hd0
    clear hA
    clear h8
    go_enter Try.func18, Try.ntmps18
    go_wp2_with fail
    clear hrk hrm hrs hAi hd0
    go_loopw [14, 15] (fun v i wr => ∃ (j : Nat) (vs : List Value) (data : List (List Nat)), j ≤ a ∧ i = .int .i64 j ∧ Below w.heap.size w wr ∧ RowsO wr w.heap.size 31 5 v vs data ∧ data.length = j ∧ ∀ i, i < j → (data.getD i []).length = n) (fun _ i _ => a - (intOf i).toNat)
    case atStart => exact ⟨0, [], [], by omega, rfl, Below.refl _ _, RowsO.nil _ _ _ _, rfl, fun i hi => by omega⟩
    case round =>
      rename World => wr
      obtain ⟨j, vs, data, hj, rfl, hbel, hrow, hdl, hdn⟩ := hrel
      have HB := Lib.hid hbel
      have HR := Lib.hid hrow
      have HDL := Lib.hid hdl
      have HDN := Lib.hid hdn
      clear hbel hrow hdl hdn
      by_cases hja : j < a
      · have hgw := HB.out.size
        obtain ⟨P, hP⟩ : ∃ P : Nat, P = j * n := ⟨_, rfl⟩
        have hPi : (j : Int) * (n : Int) = (P : Int) := by rw [hP]; simp
        have hP95 : P ≤ 200 := by rw [hP]; exact Nat.le_trans (Nat.mul_le_mul (show j ≤ 10 by omega) hn19) (by decide)
        clear hP
        go_wp2_with fail
        go_loopw [17] (fun i wq => ∃ (t : Nat) (row : List Nat), t ≤ n ∧ i = .int .i64 t ∧ Below wr.heap.size wr wq ∧ wq.rowIs wr.heap.size 5 n (fun p => .int .u8 ((row.getD p 0 : Nat) : Int)) ∧ row.length = n ∧ ∀ x ∈ row, x < 256) (fun i _ => n - (intOf i).toNat)
        case atStart =>
          exact ⟨0, List.replicate n 0, by omega, rfl, (Below.refl _ _).alloc (Nat.le_refl _) _, (World.rowIs_made wr (.int .u8 0) n 5).congr (fun p hp => by simp [hp]), by simp, fun x hx => by simp at hx; omega⟩
        case round =>
          rename World => wq
          obtain ⟨t, row, ht, rfl, hbq, hrq, hrl, hrx⟩ := hrel
          have HBQ := Lib.hid hbq
          have HRQ := Lib.hid hrq
          have HRL := Lib.hid hrl
          have HRX := Lib.hid hrx
          have hlt := hrq.lt
          have hgq := hbq.size
          clear hbq hrq hrl hrx
          by_cases htn : t < n ∧ P + t < q
          · obtain ⟨htn, htq⟩ := htn
            obtain ⟨lb, lo, rfl, hlb, hlc⟩ := HL.out.cell (i := P + t) (by have := HQ.out; omega)
            have hlc' := (HBQ.out.cell (p := ⟨lb, lo + (P + t), none⟩) (by show lb < wr.heap.size; omega)).trans ((HB.out.cell (p := ⟨lb, lo + (P + t), none⟩) hlb).trans hlc)
            obtain ⟨x, hx⟩ : ∃ x, x = l.getD (P + t) 0 := ⟨_, rfl⟩
            rw [← hx] at hlc'
            have HX : x < 256 := by rw [hx]; exact HL.out.lt _
            have hrc := HRQ.out.cell htn
            have hrf := HRQ.out.frozen t
            have hd : decide ((P : Int) + t < q) = true := by simp; omega
            clear hlc hx
            go_wp2_with fail
            go_roundw
            case rel =>
              refine ⟨t + 1, row.set t x, by omega, by go_num, HBQ.out.setCell (Nat.le_refl _) _, (HRQ.out.set t _).congr (fun p hp => ?_), by simpa using HRL.out, fun y hy => ?_⟩
              · by_cases e : p = t
                · subst e; simp [HRL.out, hp]
                · simp [e, List.getElem?_set, show ¬ t = p by omega]
              · rcases List.mem_or_eq_of_mem_set hy with h | h
                · exact HRX.out y h
                · rw [h]; exact HX
            case measure => simp [intOf]; omega
          · by_cases htn2 : t < n
            · have hd : decide ((P : Int) + t < q) = false := by simp; omega
              go_wp2_with (at_builtin; refine app_row' (w0 := w) (W := wq) rfl (.tmp 67) (.tmp 69) rfl (l := row) j (HR.out.below HBQ.out) HDL.out (by omega) (by obtain ⟨c, hc, _⟩ := HRQ.out; exact Kept.fresh (by have := Bytes.of_row HRQ.out (by rw [HRL.out]; exact Nat.le_refl _) (by unfold maxLen; omega) (by rw [HRL.out]; omega) HRX.out; rw [HRL.out] at this; exact this) rfl hc) (HB.out.trans (HBQ.out.mono hgw)) (by omega) (by rfl) rfl rfl ?_; intro v' w4 h4)
              go_roundw
              case rel =>
                refine ⟨j + 1, _, _, by omega, by go_num, h4.out.2.1, h4.out.1, by simp [HDL.out], fun i hi => ?_⟩
                by_cases e : i < j
                · have := HDN.out i e
                  simpa [List.getElem?_append_left (show i < data.length by have := HDL.out; omega)] using this
                · have e2 : i = j := by omega
                  subst e2
                  simp [List.getElem?_append_right (show data.length ≤ i by have := HDL.out; omega), HDL.out, HRL.out]
              case measure => simp [intOf]; omega
            · go_wp2_with (at_builtin; refine app_row' (w0 := w) (W := wq) rfl (.tmp 67) (.tmp 69) rfl (l := row) j (HR.out.below HBQ.out) HDL.out (by omega) (by obtain ⟨c, hc, _⟩ := HRQ.out; exact Kept.fresh (by have := Bytes.of_row HRQ.out (by rw [HRL.out]; exact Nat.le_refl _) (by unfold maxLen; omega) (by rw [HRL.out]; omega) HRX.out; rw [HRL.out] at this; exact this) rfl hc) (HB.out.trans (HBQ.out.mono hgw)) (by omega) (by rfl) rfl rfl ?_; intro v' w4 h4)
              go_roundw
              case rel =>
                refine ⟨j + 1, _, _, by omega, by go_num, h4.out.2.1, h4.out.1, by simp [HDL.out], fun i hi => ?_⟩
                by_cases e : i < j
                · have := HDN.out i e
                  simpa [List.getElem?_append_left (show i < data.length by have := HDL.out; omega)] using this
                · have e2 : i = j := by omega
                  subst e2
                  simp [List.getElem?_append_right (show data.length ≤ i by have := HDL.out; omega), HDL.out, HRL.out]
              case measure => simp [intOf]; omega
      · obtain rfl : j = a := by omega
        go_wp2_with fail
        go_ret3
        exact ⟨data, _, _, rfl, HR.out, HB.out, HDL.out, HDN.out⟩
end Go.Proofs.Ytojfeldafbabeaa
