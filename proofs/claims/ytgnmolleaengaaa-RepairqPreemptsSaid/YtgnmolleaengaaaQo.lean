/- The walk of RepairqNil, but for the sanity check. -/
import Derived.Test.YtgnmolleaengaaaQn
set_option linter.unusedVariables false
set_option linter.unusedSimpArgs false
set_option linter.unnecessarySimpa false
namespace Go.Proofs.Ytgnmolleaengaaa
open Go Go.RowKit

set_option maxRecDepth 20000 in
set_option maxHeartbeats 2000000 in
theorem nil_law (aw : ∀ w, Calls Try.prog 5 #[] w fun e w' => e = .returned (.bool true) ∧ Below w.heap.size w w') (o : Opc) (ho : OkOp o) (w : World) : Calls Try.prog 4 #[ov o] w fun e w' => e = .returned (.bool true) ∧ Below w.heap.size w w' := by
  have HM := Lib.hid ((Mm.start (S := []) w (by simp)).push w.heap.size (oc o) 36 rfl)
  have HB0 := Lib.hid (below_alloc w (.cells (oc o) 36))
  obtain ⟨j, hj⟩ : ∃ j, jobF o = j := ⟨_, rfl⟩
  have HJ : ∀ w, Hid (Calls Try.prog 7 #[ov o] w (JobPost w j)) := fun w => Lib.hid (by rw [← hj]; exact job_any o ho w)
  have HA := fun w => Lib.hid (aw w)
  clear hj ho aw
  obtain ⟨kd, ovo, ofr, ocl, ore, onu, ode⟩ := o
  obtain ⟨j1, j2, j3, j4, n, d⟩ := j
  go_enter Try.func4, Try.ntmps4
  go_wp2_with (first
    | (go_at_call 7; (with_reducible refine (HJ _).out.mono ?_); rintro e w1 ⟨pa, pc, qa, qc, rfl, -, -, hb⟩; have HB1 := Lib.hid (HB0.out.trans (hb.mono HB0.out.size)); have HH := Lib.hid (Holds.new w1 (jc ⟨j1, j2, j3, j4, n, d⟩ (.slice pa (limb n).length pc) (.slice qa (limb d).length qc)) 33); have HB2 := Lib.hid (HB1.out.alloc HB1.out.size (.cells (jc ⟨j1, j2, j3, j4, n, d⟩ (.slice pa (limb n).length pc) (.slice qa (limb d).length qc)) 33)); clear hb)
    | (go_at_call 12; (with_reducible refine (schedule_nil _).mono ?_); rintro e w2 ⟨rfl, hb⟩; have HH2 := Lib.hid (HH.out.keep hb); have HB3 := Lib.hid (HB2.out.trans (hb.mono HB2.out.size)); clear hb)
    | (go_at_call 5; (with_reducible refine (HA _).out.mono ?_); rintro e w3 ⟨rfl, hb⟩; have HH3 := Lib.hid (HH2.out.keep hb); have HB4 := Lib.hid (HB3.out.trans (hb.mono HB3.out.size)); obtain ⟨c0, c1, c2, c3, c4, c5, c6, -⟩ := HH3.out.lay7; clear hb)
    | (go_at_call 10; (with_reducible refine (put_nil ⟨j1, j2, j3, j4, n, d⟩ _ _ _ _ _ _ _).mono ?_); rintro e w4 ⟨rfl, hb⟩; have HH4 := Lib.hid (HH3.out.keep hb); have HB5 := Lib.hid (HB4.out.trans (hb.mono HB4.out.size)); clear c0 c1 c2 c3 c4 c5 c6; obtain ⟨c0, c1, c2, c3, c4, c5, c6, -⟩ := HH4.out.lay7; have TOK := Lib.hid True.intro; clear hb)
    | (go_at_call 9; have _t := TOK; (with_reducible refine (rkey_as ⟨j1, j2, j3, j4, n, d⟩ _ _ _ _ _ _ _).mono ?_); rintro e w5 ⟨rfl, hb⟩; have HH5 := Lib.hid (HH4.out.keep hb); have HB6 := Lib.hid (HB5.out.trans (hb.mono HB5.out.size)); clear hb TOK _t)
    | (go_at_call 8; (with_reducible refine (remove_nil (j1, j2) _).mono ?_); rintro e w6 ⟨rfl, hb⟩; have HH6 := Lib.hid (HH5.out.keep hb); have HB7 := Lib.hid (HB6.out.trans (hb.mono HB6.out.size)); clear c0 c1 c2 c3 c4 c5 c6; obtain ⟨c0, c1, c2, c3, c4, c5, c6, -⟩ := HH6.out.lay7; clear hb)
    | (go_at_call 9; (with_reducible refine (rkey_as ⟨j1, j2, j3, j4, n, d⟩ _ _ _ _ _ _ _).mono ?_); rintro e w7 ⟨rfl, hb⟩; have HB8 := Lib.hid (HB7.out.trans (hb.mono HB7.out.size)); clear hb)
    | (go_at_call 14; (with_reducible refine (held_nil (j1, j2) _).mono ?_); rintro e w8 ⟨rfl, hb⟩; have HB9 := Lib.hid (HB8.out.trans (hb.mono HB8.out.size)); clear hb)
    | (go_at_call 11; (with_reducible refine (running_nil _).mono ?_); rintro e w9 ⟨rfl, hb⟩; have HB10 := Lib.hid (HB9.out.trans (hb.mono HB9.out.size)); clear hb)
    | (go_at_call 13; (with_reducible refine (jobs_nil _).mono ?_); rintro e w10 ⟨rfl, hb⟩; have HB11 := Lib.hid (HB10.out.trans (hb.mono HB10.out.size)); clear hb))
  go_ret
  exact ⟨rfl, HB11.out⟩
end Go.Proofs.Ytgnmolleaengaaa
