/- The walk of the law FieldCombine. -/
import Derived.Test.YtpdjjodehahdoaaC3
namespace Go.Proofs.Ytpdjjodehahdoaa
open Go.RowKit Go.Mem

theorem sz_mono (rows : List (List Nat)) : ∀ k i, i < k → (rows.getD i []).length ≤ sz rows k
  | 0, i, h => by omega
  | k + 1, i, h => by
    show _ ≤ sz rows k + (rows.getD k []).length
    by_cases e : i = k
    · subst e; omega
    · have := sz_mono rows k i (by omega); omega
theorem short_row {rows : List (List Nat)} (h : longB rows = false) (i : Nat) : (rows.getD i []).length ≤ 1200 := by
  unfold longB at h
  simp at h
  by_cases hi : i < rows.length
  · exact Nat.le_trans (sz_mono rows rows.length i hi) h.2
  · rw [List.getD_eq_getElem?_getD, List.getElem?_eq_none (by omega)]; simp
theorem short_rows {rows : List (List Nat)} (h : longB rows = false) : rows.length ≤ 40 := by
  unfold longB at h
  simp at h
  exact h.1

theorem combine_fail (c : List Nat) (rows : List (List Nat)) (vc vr : Value) (w : World) (hc : Bytes w vc c) (hr : Mat w vr rows) (hf : ¬ GF.Fit c rows) (hl : longB rows = false) :
    Calls Try.prog 16 #[vc, vr] w (Gave 1 (fun _ v => v = .slice none 0 0) w) := by
  rcases GF.not_fit hf with h | ⟨h1, h2, p, hp, hp0, hn, hbad⟩
  · exact combine_arg c rows vc vr w hc hr h
  · exact combine_bad c rows _ p vc vr w hc hr h1 h2 hp hp0 hn hbad (short_row hl 0)
theorem refCombine_fail (c : List Nat) (rows : List (List Nat)) (vc vr : Value) (w : World) (hc : Bytes w vc c) (hr : Mat w vr rows) (hf : ¬ GF.Fit c rows) :
    Calls Try.prog 17 #[vc, vr] w (Gave 1 (fun _ v => v = .slice none 0 0) w) := by
  rcases GF.not_fit hf with h | ⟨h1, h2, p, hp, hp0, hn, hbad⟩
  · exact refCombine_arg c rows vc vr w hc hr h
  · exact refCombine_bad c rows _ p vc vr w hc hr h1 h2 hp hp0 hn hbad
theorem combine_fit (c : List Nat) (rows : List (List Nat)) (vc vr : Value) (w : World) (hc : Bytes w vc c) (hr : Mat w vr rows) (hf : GF.Fit c rows) (hl : longB rows = false) :
    Calls Try.prog 16 #[vc, vr] w (Gave 0 (fun w' v => Bytes w' v (GF.comb c rows)) w) :=
  combine_ok c rows _ vc vr w hc hr hf.1 hf.2.1 hf.2.2 (short_row hl 0)
theorem refCombine_fit (c : List Nat) (rows : List (List Nat)) (vc vr : Value) (w : World) (hc : Bytes w vc c) (hr : Mat w vr rows) (hf : GF.Fit c rows) (hl : longB rows = false) :
    Calls Try.prog 17 #[vc, vr] w (Gave 0 (fun w' v => Bytes w' v (GF.comb c rows)) w) :=
  refCombine_ok c rows _ vc vr w hc hr hf.1 hf.2.1 hf.2.2 (short_row hl 0)

def Yes (w : World) (e : Ending) (w' : World) : Prop := e = .returned (.bool true) ∧ Below w.heap.size w w'

set_option maxHeartbeats 1000000 in
theorem fieldCombine_guard (c d : List Nat) (rows : List (List Nat)) (x : Nat) (vc vr vd : Value) (w : World) (hc : Bytes w vc c) (hr : Mat w vr rows) (hd : Bytes w vd d)
    (hg : longB rows = true ∨ 40 < c.length ∨ 40 < d.length) :
    Calls Try.prog 4 #[vc, vr, vd, .int .u8 x] w (Yes w) := by
  obtain ⟨ca, ccap, rfl, hcl⟩ := hc.open
  obtain ⟨da, dcap, rfl, hdl⟩ := hd.open
  have HR := Lib.hid hr
  clear hc hd hr
  by_cases h1 : longB rows = true
  · go_enter Try.func4, Try.ntmps4
    go_wp2_with (first | (go_at_call 15; (with_reducible refine (long_any rows _ _ HR.out).mono ?_); rintro e w' ⟨rfl, rfl⟩) | (go_at_call 12; (with_reducible refine (awake_any _).mono ?_); rintro e w' ⟨rfl, rfl⟩))
    go_ret
    exact ⟨rfl, Below.refl _ _⟩
  · have h1' : longB rows = false := by simpa using h1
    clear h1
    by_cases h2 : 40 < c.length
    · go_enter Try.func4, Try.ntmps4
      go_wp2_with (first | (go_at_call 15; (with_reducible refine (long_any rows _ _ HR.out).mono ?_); rintro e w' ⟨rfl, rfl⟩) | (go_at_call 12; (with_reducible refine (awake_any _).mono ?_); rintro e w' ⟨rfl, rfl⟩))
      go_ret
      exact ⟨rfl, Below.refl _ _⟩
    · have h3 : 40 < d.length := by
        rcases hg with h | h | h
        · rw [h] at h1'; cases h1'
        · exact absurd h h2
        · exact h
      go_enter Try.func4, Try.ntmps4
      go_wp2_with (first | (go_at_call 15; (with_reducible refine (long_any rows _ _ HR.out).mono ?_); rintro e w' ⟨rfl, rfl⟩) | (go_at_call 12; (with_reducible refine (awake_any _).mono ?_); rintro e w' ⟨rfl, rfl⟩))
      go_ret
      exact ⟨rfl, Below.refl _ _⟩

theorem conv_nil (w : World) : (convert 29 9 (.slice none 0 0)).run Try.prog w = .ok (.string ByteArray.empty) w := run_convert_bytes_nil (P := Try.prog) w 29 5 Try.underlying29 Try.underlying5 0 0 9 Try.underlying9

set_option maxHeartbeats 1000000 in
theorem fieldCombine_fail (c d : List Nat) (rows : List (List Nat)) (x : Nat) (vc vr vd : Value) (w : World) (hc : Bytes w vc c) (hr : Mat w vr rows) (hd : Bytes w vd d)
    (hl : longB rows = false) (h40 : c.length ≤ 40) (h41 : d.length ≤ 40) (hf : ¬ GF.Fit c rows) :
    Calls Try.prog 4 #[vc, vr, vd, .int .u8 x] w (Yes w) := by
  have k1 := Lib.hid (combine_fail c rows vc vr w hc hr hf hl)
  have k2 := Lib.hid (fun w' (hb : Below w.heap.size w w') => refCombine_fail c rows vc vr w' (hc.below hb (Nat.le_refl _)) (hr.below hb (Nat.le_refl _)) hf)
  have hcn := conv_nil
  obtain ⟨ca, ccap, rfl, hcl⟩ := hc.open
  obtain ⟨da, dcap, rfl, hdl⟩ := hd.open
  have HR := Lib.hid hr
  have HF := Lib.hid hf
  clear hc hd hr hf
  go_enter Try.func4, Try.ntmps4
  go_wp2_with (go_at_call 15; (with_reducible refine (long_any rows _ _ HR.out).mono ?_); rintro e w' ⟨rfl, rfl⟩)
  refine k1.out.mono ?_
  rintro e w1 ⟨v, rfl, rfl, hb1⟩
  have HB1 := Lib.hid hb1
  clear hb1
  go_wp2_with fail
  refine (k2.out w1 HB1.out).mono ?_
  rintro e w2 ⟨v, rfl, rfl, hb2⟩
  have HB2 := Lib.hid hb2
  clear hb2
  go_wp2_with (go_at_call 12; (with_reducible refine (awake_any _).mono ?_); rintro e w' ⟨rfl, rfl⟩)
  go_ret
  exact ⟨rfl, HB1.out.trans (HB2.out.mono HB1.out.size)⟩

end Go.Proofs.Ytpdjjodehahdoaa
