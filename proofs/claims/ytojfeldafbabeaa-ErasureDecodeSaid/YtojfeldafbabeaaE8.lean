/- The walk of the law ErasureDecode. -/
import Derived.Test.YtojfeldafbabeaaRr
import Derived.Test.YtojfeldafbabeaaLo
import Derived.Test.YtojfeldafbabeaaAw
set_option linter.unusedVariables false
set_option linter.unusedSimpArgs false
set_option linter.unnecessarySimpa false
namespace Go.Proofs.Ytojfeldafbabeaa
open Go.RowKit Go.Mem Go.Deep

theorem bt8 {w a b : World} (h1 : Below w.heap.size w a) (h2 : Below a.heap.size a b) : Below w.heap.size w b := h1.trans (h2.mono h1.size)

set_option maxRecDepth 100000 in
set_option maxHeartbeats 4000000 in
theorem decode_law (k m index : Int) (fs : List Frag) (vf : Value) (w : World) (hf : Frags w vf fs) :
    Calls Try.prog 8 #[.int .i64 k, .int .i64 m, vf, .int .i64 index] w (Yes w) := by
  obtain ⟨fa, fcap, rfl, hfl⟩ := hf.open
  obtain ⟨n, hn⟩ : ∃ n, n = fs.length := ⟨_, rfl⟩
  rw [← hn] at hf hfl ⊢
  have HF := Lib.hid hf
  have HN := Lib.hid hn
  clear hf hn
  go_enter Try.func8, Try.ntmps8
  go_wp2_with fail
  go_loopw [9, 10] (fun v i wr => ∃ (j : Nat) (vs : List Value), j ≤ n ∧ j ≤ 40 ∧ i = .int .i64 j ∧ Below w.heap.size w wr ∧ RowsO wr w.heap.size 31 5 v vs (rowsTo fs j)) (fun _ i _ => n - (intOf i).toNat)
  case atStart => exact ⟨0, [], by omega, by omega, rfl, Below.refl _ _, RowsO.nil _ _ _ _⟩
  case round =>
    rename World => wr
    obtain ⟨j, vs, hj, hj40, rfl, hbr, hrow⟩ := hrel
    have HB := Lib.hid hbr
    have HR := Lib.hid hrow
    have HM := Lib.hid (hrow.mat (by rw [rowsTo_len]; omega))
    have hgr := hbr.size
    clear hbr hrow
    by_cases hgo : j < n ∧ j < 40
    · obtain ⟨hjn, hj4⟩ := hgo
      obtain ⟨fb, fo, y, he, hfb, hc0, hc1, hby⟩ := HF.out.cell (i := j) (by have := HN.out; omega)
      subst he
      have hc1' := (HB.out.cell (p := ⟨fb, fo + j * 2 + 1, none⟩) hfb).trans hc1
      obtain ⟨l, hl⟩ : ∃ l, l = (fragD fs j).2 := ⟨_, rfl⟩
      rw [← hl] at hby
      have hkp := Kept.came (e := 5) hby HB.out (Nat.le_refl _)
      obtain ⟨ya, ycap, rfl, _⟩ := hby.open
      obtain ⟨L, hL⟩ : ∃ L, L = l.length := ⟨_, rfl⟩
      rw [← hL] at hc1' hkp
      have HK := Lib.hid hkp
      have HLL := Lib.hid hl
      clear hc0 hc1 hby hl hL hkp
      go_wp2_with (at_builtin; refine app_row' (w0 := w) (W := wr) rfl (.tmp 29) (.tmp 35) rfl (l := l) j HR.out (rowsTo_len _ _) (by omega) HK.out HB.out hgr (by rfl) rfl rfl ?_; intro v' w4 h4)
      go_roundw
      case rel => exact ⟨j + 1, _, by omega, by omega, by go_num, h4.out.2.1, by rw [rowsTo_succ, ← HLL.out]; exact h4.out.1⟩
      case measure => simp [intOf]; omega
    · by_cases hn30 : 30 < n
      · have hd30 : decide ((30 : Int) < n) = true := by simp; omega
        have hex : ¬ j < n ∨ (j < n ∧ ¬ j < 40) := by omega
        clear hgo
        rcases hex with hjn | ⟨hjn, hj4⟩
        · go_wp2_with (first | (go_at_call 11; refine (long_any (rowsTo fs j) _ _ HM.out).mono ?_; rintro e w2 ⟨lb, rfl, rfl, hb⟩; have HSH := Lib.hid hb; clear hb) | (go_at_call 12; refine (awake_any _).mono ?_; rintro e wa ⟨rfl, hba⟩; have HBA := Lib.hid hba; clear hba))
          all_goals go_ret
          all_goals exact ⟨rfl, bt8 HB.out HBA.out⟩
        · go_wp2_with (first | (go_at_call 11; refine (long_any (rowsTo fs j) _ _ HM.out).mono ?_; rintro e w2 ⟨lb, rfl, rfl, hb⟩; have HSH := Lib.hid hb; clear hb) | (go_at_call 12; refine (awake_any _).mono ?_; rintro e wa ⟨rfl, hba⟩; have HBA := Lib.hid hba; clear hba))
          all_goals go_ret
          all_goals exact ⟨rfl, bt8 HB.out HBA.out⟩
      · have hd30 : decide ((30 : Int) < n) = false := by simp; omega
        obtain rfl : j = n := by omega
        clear hgo hj hj40
        have hjn : ¬ j < j := Nat.lt_irrefl j
        go_wp2_with (first | (go_at_call 11; refine (long_any (rowsTo fs j) _ _ HM.out).mono ?_; rintro e w2 ⟨lb, rfl, rfl, hb⟩; have HSH := Lib.hid hb; clear hb) | (go_at_call 12; refine (awake_any _).mono ?_; rintro e wa ⟨rfl, hba⟩; have HBA := Lib.hid hba; clear hba) | (go_at_call 19; (have hsh := HSH.out (by first | assumption | exact Bool.eq_false_iff.2 (by assumption))); (obtain ⟨E, D, hd1, hd2⟩ := decode_alike k m fs (fun i hi => by have h := hsh.2 i (by rw [rowsTo_len, HN.out]; exact hi); rwa [rowsTo_getD _ _ _ (by rw [HN.out]; exact hi)] at h) (by have := HN.out; omega)); (have HD2 := Lib.hid hd2); refine (hd1 _ _ (HF.out.below HB.out (Nat.le_refl _))).mono ?_; rintro e w3 ⟨va, rfl, hm, hb3⟩; (have HA := Lib.hid (And.intro hm hb3)); clear hd1 hd2 hm hb3) | (go_at_call 22; refine (HD2.out _ _ ((HF.out.below HB.out (Nat.le_refl _)).below HA.out.2 (Nat.le_refl _))).mono ?_; rintro e w4 ⟨vb, rfl, hm, hb4⟩; (have HBB := Lib.hid (And.intro hm hb4)); clear hm hb4) | (go_at_call 23; (obtain ⟨F, b, hr1, hr2⟩ := rebuild_alike k m index fs (fun i hi => by have h := hsh.2 i (by rw [rowsTo_len, HN.out]; exact hi); rwa [rowsTo_getD _ _ _ (by rw [HN.out]; exact hi)] at h) (by have := HN.out; omega)); (have HR2 := Lib.hid hr2); refine (hr1 _ _ (((HF.out.below HB.out (Nat.le_refl _)).below HA.out.2 (Nat.le_refl _)).below HBB.out.2 (Nat.le_refl _))).mono ?_; rintro e w5 ⟨vc, rfl, hm, hb5⟩; (have HCC := Lib.hid (And.intro hm hb5)); clear hr1 hr2 hm hb5) | (go_at_call 24; refine (HR2.out _ _ ((((HF.out.below HB.out (Nat.le_refl _)).below HA.out.2 (Nat.le_refl _)).below HBB.out.2 (Nat.le_refl _)).below HCC.out.2 (Nat.le_refl _))).mono ?_; rintro e w6 ⟨vd, rfl, hm, hb6⟩; (have HDD := Lib.hid (And.intro hm hb6)); clear hm hb6) | (go_at_call 15; refine (sameRows_any D _ _ _ (((HA.out.1.below HBB.out.2 (Nat.le_refl _)).below HCC.out.2 (Nat.le_refl _)).below HDD.out.2 (Nat.le_refl _)) ((HBB.out.1.below HCC.out.2 (Nat.le_refl _)).below HDD.out.2 (Nat.le_refl _))).mono ?_; rintro e w7 ⟨rfl, hb7⟩; (have hcv1 := ((HCC.out.1.below HDD.out.2 (Nat.le_refl _)).below hb7 (Nat.le_refl _)).conv (P := Try.prog) (src := 31) (e := 5) (dst := 9) Try.underlying31 Try.underlying5 Try.underlying9); (have hcv2 := (HDD.out.1.below hb7 (Nat.le_refl _)).conv (P := Try.prog) (src := 31) (e := 5) (dst := 9) Try.underlying31 Try.underlying5 Try.underlying9); (obtain ⟨S, hS⟩ : ∃ S, S = strOf b := ⟨_, rfl⟩); rw [← hS] at hcv1 hcv2; clear hS; (have HB7 := Lib.hid hb7); clear hb7))
        all_goals go_ret
        all_goals first | exact ⟨rfl, bt8 HB.out HBA.out⟩ | exact ⟨rfl, bt8 (bt8 (bt8 (bt8 (bt8 (bt8 HB.out HA.out.2) HBB.out.2) HCC.out.2) HDD.out.2) HB7.out) HBA.out⟩
end Go.Proofs.Ytojfeldafbabeaa
