/- The walk of LeaseNil. -/
import Derived.Test.YtnhpjmjinchamaaNf
import Derived.Test.YtnhpjmjinchamaaNh
import Derived.Test.YtnhpjmjinchamaaTj
import Derived.Test.YtnhpjmjinchamaaDa
set_option linter.unusedVariables false
set_option linter.unusedSimpArgs false
set_option linter.unnecessarySimpa false
namespace Go.Proofs.Ytnhpjmjinchamaa
open Go Go.RowKit Go.MapKept Go.ChangeMaps

theorem smallR_no : SmallR noR := smallR_of Rel.start (by omega)
theorem adv_is {t n : Int} (h : advN t = n) (w : World) : Calls Try.prog 12 #[nilT, .int .i64 t] w fun e w' => e = .returned (.int .i64 n) ∧ Below w.heap.size w w' := h ▸ adv_nil t w
theorem box_nil {w w' : World} {k v f d x : Int} (hb : Below (w.heap.size + 1) (w.alloc (.cells #[.int .i64 k, .int .i64 v, .int .i64 f, .int .i64 d, .int .i64 x] 42)) w') :
    w'.cell? ⟨w.heap.size, 0, none⟩ = some (.int .i64 k) ∧ w'.cell? ⟨w.heap.size, 1, none⟩ = some (.int .i64 v) ∧ w'.cell? ⟨w.heap.size, 2, none⟩ = some (.int .i64 f) ∧ w'.cell? ⟨w.heap.size, 3, none⟩ = some (.int .i64 d) ∧ w'.cell? ⟨w.heap.size, 4, none⟩ = some (.int .i64 x) ∧ w.heap.size < w'.heap.size := by
  have q := fun i => hb.cell (p := ⟨w.heap.size, i, none⟩) (by show w.heap.size < w.heap.size + 1; omega)
  exact ⟨(q 0).trans (by simp), (q 1).trans (by simp), (q 2).trans (by simp), (q 3).trans (by simp), (q 4).trans (by simp), by have := hb.size; simp at this; omega⟩
theorem le_nil {w w' : World} {k v f d x : Int} (hb : Below (w.heap.size + 1) (w.alloc (.cells #[.int .i64 k, .int .i64 v, .int .i64 f, .int .i64 d, .int .i64 x] 42)) w') : w.heap.size + 1 ≤ w'.heap.size := by have := hb.size; simp at this; omega

set_option maxRecDepth 20000 in
set_option maxHeartbeats 8000000 in
theorem nil_law (HAL : ∀ {w : World} {B rb : Nat}, RfAt w B rb noR → ∀ o : Opc, Calls Try.prog 27 #[nilT, .pointer (some ⟨rb, 0, none⟩), ov o] w fun e w' => e = .returned (.bool true) ∧ Below w.heap.size w w') (o : Opc) (w : World) : Calls Try.prog 8 #[ov o] w fun e w' => e = .returned (.bool true) ∧ Below w.heap.size w w' := by
  obtain ⟨k, v, f, d, x⟩ := o
  have e0 : (w.alloc (.cells #[.int .i64 k, .int .i64 v, .int .i64 f, .int .i64 d, .int .i64 x] 42)).heap.size = w.heap.size + 1 := by simp
  have HR := Lib.hid (show RfAt ((w.alloc (.cells #[.int .i64 k, .int .i64 v, .int .i64 f, .int .i64 d, .int .i64 x] 42)).alloc (.cells Try.zeroCells39 39)) (w.heap.size + 1) (w.heap.size + 1) noR from e0 ▸ rf_start (w.alloc (.cells #[.int .i64 k, .int .i64 v, .int .i64 f, .int .i64 d, .int .i64 x] 42)))
  have P0 := Lib.hid (show Below (w.heap.size + 1) (w.alloc (.cells #[.int .i64 k, .int .i64 v, .int .i64 f, .int .i64 d, .int .i64 x] 42)) ((w.alloc (.cells #[.int .i64 k, .int .i64 v, .int .i64 f, .int .i64 d, .int .i64 x] 42)).alloc (.cells Try.zeroCells39 39)) from (Below.refl _ _).alloc (by rw [e0]; exact Nat.le_refl _) _)
  have HB0 := Lib.hid (below_alloc w (.cells #[.int .i64 k, .int .i64 v, .int .i64 f, .int .i64 d, .int .i64 x] 42))
  obtain ⟨n, hn⟩ : ∃ n, enN v f = n := ⟨_, rfl⟩
  have HE := Lib.hid hn
  have HC := Lib.hid (hn ▸ rcommit_no' v f)
  obtain ⟨a, R1, hp⟩ := rplace_no v f d x
  obtain ⟨R2, hv⟩ := radv_no v
  have hg := rgrant_no v f d x
  clear hn e0
  rcases hp with ⟨hp, hpn⟩ | ⟨hp, hpn⟩ <;> rcases hv with ⟨hv, ha⟩ | ⟨hv, ha⟩ | ⟨hv, ha⟩
  all_goals
    rw [hpn] at hg
    have HP := Lib.hid hp
    have HN := Lib.hid hpn
    have HG := Lib.hid hg
    have HV := Lib.hid hv
    have HA := Lib.hid ha
    clear hp hpn hg hv ha
    go_enter Try.func8, Try.ntmps8
    go_wp2_with (first
      | (go_at_call 23; (with_reducible refine (place_nil v f d x HN.out _).mono ?_); rintro e w1 ⟨rfl, hb⟩; have B1 := Lib.hid (P0.out.trans (hb.mono (le_nil P0.out))); obtain ⟨g0, g1, g2, g3, g4, g5⟩ := box_nil B1.out; have HR1 := Lib.hid (HR.out.below hb); clear hb)
      | (go_at_call 28; (with_reducible refine (rplace_as HR1.out smallR_no HP.out).mono ?_); rintro e w2 ⟨rfl, hr, hon, -⟩; have B2 := Lib.hid (B1.out.trans (hon.below (by intro s hs; rw [List.mem_singleton.1 hs]; exact (by simp)) (le_nil B1.out))); obtain ⟨g0, g1, g2, g3, g4, g5⟩ := box_nil B2.out; have HR2 := Lib.hid (rf_start w2); have P2 := Lib.hid (B2.out.alloc (le_nil B2.out) (.cells Try.zeroCells39 39)); have S2 := Lib.hid (le_nil B2.out); clear hr hon; )
      | (go_at_call 21; (with_reducible refine (grant_nil v f d x HN.out _).mono ?_); rintro e w3 ⟨rfl, hb⟩; have B3 := Lib.hid (P2.out.trans (hb.mono (le_nil P2.out))); obtain ⟨g0, g1, g2, g3, g4, g5⟩ := box_nil B3.out; have HR3 := Lib.hid (HR2.out.below hb); clear hb)
      | (go_at_call 29; (with_reducible refine (rgrant_as HR3.out smallR_no HG.out).mono ?_); rintro e w4 ⟨rfl, hr, hon, -⟩; have B4 := Lib.hid (B3.out.trans (hon.below (by intro s hs; rw [List.mem_singleton.1 hs]; exact S2.out) (le_nil B3.out))); obtain ⟨g0, g1, g2, g3, g4, g5⟩ := box_nil B4.out; have HR4 := Lib.hid hr; clear hr hon; )
      | (go_at_call 18; (with_reducible refine (commit_nil v f HE.out _).mono ?_); rintro e w5 ⟨rfl, hb⟩; have B5 := Lib.hid (B4.out.trans (hb.mono (le_nil B4.out))); obtain ⟨g0, g1, g2, g3, g4, g5⟩ := box_nil B5.out; have HR5 := Lib.hid ((HR4.out.below hb).below (below_alloc _ (.cells (lc noL) 46))); have P5 := Lib.hid (B5.out.alloc (le_nil B5.out) (.cells (lc noL) 46)); clear hb)
      | (go_at_call 30; (with_reducible refine (rcommit_as HR5.out (fun _ => by rw [show findN (isF v f true) noR.L = -1 from rfl]; decide) HC.out).mono ?_); rintro e w6 ⟨rfl, hr, hon, -⟩; have B6 := Lib.hid (P5.out.trans (hon.below (by intro s hs; rw [List.mem_singleton.1 hs]; exact S2.out) (le_nil P5.out))); obtain ⟨g0, g1, g2, g3, g4, g5⟩ := box_nil B6.out; have HR6 := Lib.hid (hr.below (below_alloc _ (.cells (lc noL) 46))); have P6 := Lib.hid (B6.out.alloc (le_nil B6.out) (.cells (lc noL) 46)); clear hr hon; )
      | (go_at_call 22; (with_reducible refine (revoke_nil v f HE.out _).mono ?_); rintro e w7 ⟨rfl, hb⟩; have B7 := Lib.hid (P6.out.trans (hb.mono (le_nil P6.out))); obtain ⟨g0, g1, g2, g3, g4, g5⟩ := box_nil B7.out; have HR7 := Lib.hid ((HR6.out.below hb).below (below_alloc _ (.cells (lc noL) 46))); have P7 := Lib.hid (B7.out.alloc (le_nil B7.out) (.cells (lc noL) 46)); clear hb)
      | (go_at_call 31; (with_reducible refine (radv_as HR7.out HV.out).mono ?_); rintro e w8 ⟨rfl, hr, hon, -⟩; have B8 := Lib.hid (P7.out.trans (hon.below (by intro s hs; rw [List.mem_singleton.1 hs]; exact S2.out) (le_nil P7.out))); obtain ⟨g0, g1, g2, g3, g4, g5⟩ := box_nil B8.out; clear hr hon; )
      | (go_at_call 13; (with_reducible refine (ver_nil _).mono ?_); rintro e w9 ⟨rfl, hb⟩; have B9 := Lib.hid (B8.out.trans (hb.mono (le_nil B8.out))); obtain ⟨g0, g1, g2, g3, g4, g5⟩ := box_nil B9.out; clear hb)
      | (go_at_call 10; (with_reducible refine (awake_any _).mono ?_); rintro e w10 ⟨rfl, hb⟩; have B10 := Lib.hid (B9.out.trans (hb.mono (le_nil B9.out))); obtain ⟨g0, g1, g2, g3, g4, g5⟩ := box_nil B10.out; clear hb)
      | (go_at_call 12; (with_reducible refine (adv_is HA.out _).mono ?_); rintro e w11 ⟨rfl, hb⟩; have B11 := Lib.hid (B10.out.trans (hb.mono (le_nil B10.out))); obtain ⟨g0, g1, g2, g3, g4, g5⟩ := box_nil B11.out; clear hb)
      | (go_at_call 32; (with_reducible refine (clone_nil _).mono ?_); rintro e w12 ⟨rfl, hb⟩; have B12 := Lib.hid (B11.out.trans (hb.mono (le_nil B11.out))); obtain ⟨g0, g1, g2, g3, g4, g5⟩ := box_nil B12.out; have P12 := Lib.hid (B12.out.alloc (le_nil B12.out) (.cells Try.zeroCells39 39)); clear hb)
      | (go_at_call 27; (with_reducible refine (HAL (rf_start w12) ⟨k, v, f, d, x⟩).mono ?_); rintro e w13 ⟨rfl, hb⟩; have B13 := Lib.hid (P12.out.trans (hb.mono (le_nil P12.out))); obtain ⟨g0, g1, g2, g3, g4, g5⟩ := box_nil B13.out; clear hb))
    go_ret
    exact ⟨rfl, HB0.out.trans (B13.out.mono (by omega))⟩
end Go.Proofs.Ytnhpjmjinchamaa
