/- The walk of do, all kinds of calls. -/
import Derived.Test.YtnhpjmjinchamaaDa
set_option linter.unusedVariables false
set_option linter.unusedSimpArgs false
set_option linter.unnecessarySimpa false
namespace Go.Proofs.Ytnhpjmjinchamaa
open Go Go.RowKit

/-- a call with one outcome as a special operation -/
theorem lOp_call {P : Program} {ops : Array Oper} {S T T' : World → Prop} {i : Nat} {o : Oper} {a : Act} {K : (World → Prop) → Act → Prop} (n : Value) (hi : ops[i]? = some o) (hg : o.guard = none) (h1 : Stable T') (h2 : ∀ w, T' w → S w)
    (hv : ∀ w, T w → sUpon P (fun u w' => u = n ∧ T' w') ((execOp a.eval o).run P w)) (hk : K T' (a.put o.dst n)) : lOp P ops S T i K a := by
  refine lOp_special' hi (fun u w' => u = n ∧ T' w') hg ?_ ?_ hv ?_
  · rintro u w w' ⟨rfl, h⟩ hb; exact ⟨rfl, h1 _ _ h hb⟩
  · rintro u w ⟨rfl, h⟩; exact h2 w h
  · rintro u ⟨w, rfl, hw⟩
    have e : (fun w' => u = u ∧ T' w') = T' := by funext w; exact propext ⟨fun h => h.2, fun h => ⟨rfl, h⟩⟩
    rw [e]
    exact hk

set_option maxRecDepth 20000 in
set_option maxHeartbeats 2000000 in
theorem do_adv {N B : Nat} {i : Ids} {rb : Nat} {T : Tb} {R : Rf} {w : World} (hb : Both B i rb T R w) (hr : Rel N T R) (v f d x : Int) :
    Calls Try.prog 15 #[i.ptr, .pointer (some ⟨rb, 0, none⟩), ov ⟨5, v, f, d, x⟩] w (DoPost N B i rb (advF T v).2 w) := by
  have HS := Lib.hid (Bo.start hb (oc ⟨5, v, f, d, x⟩) 42)
  obtain ⟨h1, h2⟩ := hr.adv v
  obtain ⟨a, T', hT⟩ : ∃ a T', advF T v = (a, T') := ⟨_, _, rfl⟩
  obtain ⟨a', R', hR⟩ : ∃ a R', radvF R v = (a, R') := ⟨_, _, rfl⟩
  rw [hT, hR] at h1 h2
  rw [hT]
  cases h1
  have HT := Lib.hid hT
  have HR := Lib.hid hR
  have HF := Lib.hid h2
  clear hT hR h2 hr hb
  go_enter Try.func15, Try.ntmps15
  go_wp2_with fail
  refine wp_region_pick_tail (fun w' => Holds w' w.heap.size (oc ⟨5, v, f, d, x⟩)) (Bo w B i rb T R w.heap.size (oc ⟨5, v, f, d, x⟩)) [0, 1, 2, 4, 5, 6] 2 8 (by kernel_rfl) ?_ (fun _ _ h hb => h.call hb) (fun _ h => h.box) HS.out ?_
  · kernel_rfl
  repeat (apply pRow_plain
          · exact rfl
          · exact rfl
          · intro wg hg
            ((obtain ⟨c0, c1, c2, c3, c4, -⟩ := hg.lay5))
            go_simp
            first
              | exact rfl
              | exact Below.refl _ _
              | exact ⟨Below.refl _ _, rfl⟩
              | ((fail))
          intro K hK
          go_simp
          refine hK _ ?_
          clear hK K)
  refine pRow_nil ?_
  refine lAnyL_step [3] ?_ (by simp) (by decide) ?_
  · kernel_rfl
  intro j hj
  obtain rfl : j = 3 := by simpa using hj
  refine lOp_call (.int .i64 a) rfl rfl (T' := Bo w B i rb T' R w.heap.size (oc ⟨5, v, f, d, x⟩)) (fun _ _ h hb => h.call hb) (fun _ h => h.box) ?_ ?_
  · intro wg hg
    go_simp
    refine (adv_as hg.both.tb HT.out).mono ?_
    intro e w1 ho
    exact ⟨_, ho.1, rfl, hg.left ho⟩
  go_simp
  refine lAnyL_step [7] ?_ (by simp) (by decide) ?_
  · kernel_rfl
  intro j hj
  obtain rfl : j = 7 := by simpa using hj
  refine lOp_call (.int .i64 a) rfl rfl (T' := Bo w B i rb T' R' w.heap.size (oc ⟨5, v, f, d, x⟩)) (fun _ _ h hb => h.call hb) (fun _ h => h.box) ?_ ?_
  · intro wg hg
    go_simp
    refine (radv_as hg.both.rf HR.out).mono ?_
    intro e w1 ho
    exact ⟨_, ho.1, rfl, hg.right ho⟩
  go_simp
  refine ⟨?_, ?_⟩
  · kernel_rfl
  intro wg hg
  have HG := Lib.hid hg
  clear hg
  go_wp2
  go_ret
  exact ⟨rfl, R', HF.out, HG.out.both, HG.out.only⟩

theorem DoPost.mono {N M : Nat} {B : Nat} {i : Ids} {rb : Nat} {T' : Tb} {w : World} {e : Ending} {w' : World} (h : DoPost N B i rb T' w e w') (hM : N ≤ M) : DoPost M B i rb T' w e w' := by
  obtain ⟨h1, R', h2, h3⟩ := h
  exact ⟨h1, R', h2.mono hM, h3⟩

theorem do_any {N B : Nat} {i : Ids} {rb : Nat} {T : Tb} {R : Rf} {w : World} (hb : Both B i rb T R w) (hr : Rel N T R) (hN : N ≤ 800) (o : Opc) :
    Calls Try.prog 15 #[i.ptr, .pointer (some ⟨rb, 0, none⟩), ov o] w (DoPost (N + 1) B i rb (stepT T o) w) := by
  obtain ⟨k, v, f, d, x⟩ := o
  unfold stepT
  by_cases h1 : k = 1
  · subst h1; exact do_place hb hr hN v f d x
  by_cases h2 : k = 2
  · subst h2; exact do_grant hb hr hN v f d x
  by_cases h3 : k = 3
  · subst h3; exact (do_commit hb hr v f d x).mono fun _ _ h => h.mono (Nat.le_succ N)
  by_cases h4 : k = 4
  · subst h4; exact (do_revoke hb hr v f d x).mono fun _ _ h => h.mono (Nat.le_succ N)
  by_cases h5 : k = 5
  · subst h5; exact (do_adv hb hr v f d x).mono fun _ _ h => h.mono (Nat.le_succ N)
  by_cases h6 : k = 6
  · subst h6; exact (do_ver hb hr v f d x).mono fun _ _ h => h.mono (Nat.le_succ N)
  simp only [h1, h2, h3, h4, h5, h6, if_false]
  exact (do_else hb hr k v f d x h1 h2 h3 h4 h5 h6).mono fun _ _ h => h.mono (Nat.le_succ N)
end Go.Proofs.Ytnhpjmjinchamaa
