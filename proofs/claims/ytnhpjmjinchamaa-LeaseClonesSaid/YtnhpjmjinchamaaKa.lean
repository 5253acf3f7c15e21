/- The clones: maps.Clone at the table's maps, the table's Clone. -/
import Derived.Test.YtnhpjmjinchamaaDb
import Derived.Shelf.SlMaps.Clone
set_option linter.unusedVariables false
set_option linter.unusedSimpArgs false
set_option linter.unnecessarySimpa false
namespace Go.Proofs.Ytnhpjmjinchamaa
open Go Go.RowKit Go.MapKept Go.ChangeMaps

theorem MapV.copy {w : World} {b : Nat} {F : Pk → Option Value} (h : MapV w b F) : ∃ es cl, w.heap[b]? = some (.map es cl) ∧ MapV (w.alloc (.map es cl)) w.heap.size F := by
  obtain ⟨es, c, h1, h2⟩ := h
  exact ⟨es, c, h1, es, c, (MapKept.heap_alloc w _).1, h2⟩

/-- a copy of a map -/
def MapPost (w : World) (F : Pk → Option Value) (e : Ending) (w' : World) : Prop := e = .returned (.map (some w.heap.size)) ∧ MapV w' w.heap.size F ∧ Below w.heap.size w w' ∧ w'.heap.size = w.heap.size + 1

theorem clone_ext : ∃ fn, Try.prog.funcs[64]? = some fn ∧ (fn.name == "runtime.NumGoroutine") = false ∧ fn.body.isNone = true ∧ Extern.findNext fn = none ∧ Extern.find fn = some Extern.MapsClone.clone :=
  ⟨_, Try.func64, by kernel_rfl, by kernel_rfl, by kernel_rfl, by kernel_rfl⟩

set_option maxRecDepth 20000 in
set_option maxHeartbeats 2000000 in
theorem mclone_g {w : World} {b : Nat} {F : Pk → Option Value} (h : MapV w b F) : Calls Try.prog 55 #[.map (some b)] w (MapPost w F) := by
  obtain ⟨es, cl, hb, hm⟩ := h.copy
  have HM := Lib.hid hm
  clear h hm
  obtain ⟨fn, f0, f1, f2, f3, f4⟩ := clone_ext
  have hq := fun w => run_eql_map_nil_sl (P := Try.prog) w 64 _ _ (some b) map64
  go_enter Try.func55, Try.ntmps55
  go_wp2
  rw [run_callFunc_extern f0 f1 f2 f3 f4, run_maps_clone_sl w 64 hb]
  simp only [Result.andThen]
  rw [Oper.upon_value]
  go_wp2
  rw [run_typeAssert_map_sl _ 64 20 _ _ _ map64]
  simp only [Result.andThen]
  rw [Oper.upon_value]
  go_wp2
  go_ret
  exact ⟨rfl, HM.out, below_alloc _ _, by simp⟩
set_option maxRecDepth 20000 in
set_option maxHeartbeats 2000000 in
theorem mclone_l {w : World} {b : Nat} {F : Pk → Option Value} (h : MapV w b F) : Calls Try.prog 56 #[.map (some b)] w (MapPost w F) := by
  obtain ⟨es, cl, hb, hm⟩ := h.copy
  have HM := Lib.hid hm
  clear h hm
  obtain ⟨fn, f0, f1, f2, f3, f4⟩ := clone_ext
  have hq := fun w => run_eql_map_nil_sl (P := Try.prog) w 65 _ _ (some b) map65
  go_enter Try.func56, Try.ntmps56
  go_wp2
  rw [run_callFunc_extern f0 f1 f2 f3 f4, run_maps_clone_sl w 65 hb]
  simp only [Result.andThen]
  rw [Oper.upon_value]
  go_wp2
  rw [run_typeAssert_map_sl _ 65 20 _ _ _ map65]
  simp only [Result.andThen]
  rw [Oper.upon_value]
  go_wp2
  go_ret
  exact ⟨rfl, HM.out, below_alloc _ _, by simp⟩
set_option maxRecDepth 20000 in
set_option maxHeartbeats 2000000 in
theorem mclone_u {w : World} {b : Nat} {F : Pk → Option Value} (h : MapV w b F) : Calls Try.prog 57 #[.map (some b)] w (MapPost w F) := by
  obtain ⟨es, cl, hb, hm⟩ := h.copy
  have HM := Lib.hid hm
  clear h hm
  obtain ⟨fn, f0, f1, f2, f3, f4⟩ := clone_ext
  have hq := fun w => run_eql_map_nil_sl (P := Try.prog) w 66 _ _ (some b) map66
  go_enter Try.func57, Try.ntmps57
  go_wp2
  rw [run_callFunc_extern f0 f1 f2 f3 f4, run_maps_clone_sl w 66 hb]
  simp only [Result.andThen]
  rw [Oper.upon_value]
  go_wp2
  rw [run_typeAssert_map_sl _ 66 20 _ _ _ map66]
  simp only [Result.andThen]
  rw [Oper.upon_value]
  go_wp2
  go_ret
  exact ⟨rfl, HM.out, below_alloc _ _, by simp⟩

/-- between the copies -/
structure Cm (w0 : World) (i : Ids) (T : Tb) (L : List (Nat × (Pk → Option Value))) (w : World) : Prop where
  below : Below w0.heap.size w0 w
  tb : TbAt w i T
  mem : ∀ x ∈ L, w0.heap.size ≤ x.1 ∧ MapV w x.1 x.2
  dist : L.Pairwise fun a b => b.1 < a.1
namespace Cm
variable {w0 w w' : World} {i : Ids} {T : Tb} {L : List (Nat × (Pk → Option Value))} {F : Pk → Option Value}
theorem call (h : Cm w0 i T L w) (hb : Below w.heap.size w w') : Cm w0 i T L w' :=
  ⟨h.below.trans (hb.mono h.below.size), h.tb.below hb, fun x hx => ⟨(h.mem x hx).1, (h.mem x hx).2.below hb⟩, h.dist⟩
theorem base (h : Cm w0 i T L w) : Cm w0 i T [] w := ⟨h.below, h.tb, fun _ h => (by cases h), List.Pairwise.nil⟩
theorem start (h : TbAt w i T) : Cm w i T [] w := ⟨Below.refl _ _, h, fun _ h => (by cases h), List.Pairwise.nil⟩
theorem post (h : Cm w0 i T L w) {e : Ending} (hp : MapPost w F e w') : ∃ u, e = .returned u ∧ ∃ b, u = .map (some b) ∧ Cm w0 i T ((b, F) :: L) w' := by
  obtain ⟨he, hm, hb, _⟩ := hp
  have h2 := h.call hb
  refine ⟨_, he, _, rfl, h2.below, h2.tb, fun x hx => ?_, List.Pairwise.cons (fun x hx => (h.mem x hx).2.lt) h.dist⟩
  rcases List.mem_cons.1 hx with rfl | hx
  · exact ⟨h.below.size, hm⟩
  · exact h2.mem x hx
end Cm

/-- a special operation that yields a new map -/
theorem lOp_new {P : Program} {ops : Array Oper} {S T : World → Prop} {T' : Nat → World → Prop} {i : Nat} {o : Oper} {a : Act} {K : (World → Prop) → Act → Prop} (hi : ops[i]? = some o) (hg : o.guard = none) (h1 : ∀ b, Stable (T' b)) (h2 : ∀ b w, T' b w → S w)
    (hv : ∀ w, T w → sUpon P (fun u w' => ∃ b, u = .map (some b) ∧ T' b w') ((execOp a.eval o).run P w)) (hk : ∀ b, K (T' b) (a.put o.dst (.map (some b)))) : lOp P ops S T i K a := by
  refine lOp_special' hi (fun u w' => ∃ b, u = .map (some b) ∧ T' b w') hg ?_ ?_ hv ?_
  · rintro u w w' ⟨b, rfl, h⟩ hb; exact ⟨b, rfl, h1 b _ _ h hb⟩
  · rintro u w ⟨b, rfl, h⟩; exact h2 b w h
  · rintro u ⟨w, b, rfl, hw⟩
    have e : (fun w' => ∃ b', Value.map (some b) = .map (some b') ∧ T' b' w') = T' b := by
      funext w
      refine propext ⟨?_, fun h => ⟨b, rfl, h⟩⟩
      rintro ⟨b', h, hw⟩
      cases h
      exact hw
    rw [e]
    exact hk b

def CloPost (w : World) (T : Tb) (e : Ending) (w' : World) : Prop := ∃ j : Ids, e = .returned j.ptr ∧ (∀ s ∈ j.all, w.heap.size ≤ s) ∧ TbAt w' j T ∧ Below w.heap.size w w'

theorem Cm.out {w0 w : World} {i : Ids} {T : Tb} {g h m u : Nat} {F : Pk → Option Value} (hF : ∀ k, (F k).getD (.int .i64 0) = .int .i64 (T.g k))
    (hc : Cm w0 i T [(u, fun k => (T.u k).map lv), (m, fun k => (T.m k).map lv), (h, fun k => (T.h k).map lv), (g, F)] w) :
    CloPost w0 T (.returned (.pointer (some ⟨w.heap.size, 0, none⟩))) (w.alloc (.cells #[.map (some g), .map (some h), .map (some m), .map (some u), .int .i64 T.term, .int .i64 T.count] 68)) := by
  have hu := hc.mem (u, fun k => (T.u k).map lv) (by simp)
  have hm := hc.mem (m, fun k => (T.m k).map lv) (by simp)
  have hh := hc.mem (h, fun k => (T.h k).map lv) (by simp)
  have hg := hc.mem (g, F) (by simp)
  have hd := hc.dist
  simp at hd
  have lu := hu.2.lt
  have lm := hm.2.lt
  have lh := hh.2.lt
  have lg := hg.2.lt
  have hb := below_alloc w (.cells #[.map (some g), .map (some h), .map (some m), .map (some u), .int .i64 T.term, .int .i64 T.count] 68)
  have hs := hc.below.size
  simp only at hu hm hh hg lu lm lh lg
  refine ⟨⟨w.heap.size, g, h, m, u⟩, rfl, ?_, ⟨Holds.new _ _ _, ⟨F, hg.2.below hb, hF⟩, hh.2.below hb, hm.2.below hb, hu.2.below hb, ?_⟩, hc.below.trans (hb.mono hs)⟩
  · simp [Ids.all]; omega
  · simp [Ids.all]; omega

set_option maxRecDepth 20000 in
set_option maxHeartbeats 4000000 in
theorem clone_any {w : World} {i : Ids} {T : Tb} (h : TbAt w i T) : Calls Try.prog 32 #[i.ptr] w (CloPost w T) := by
  obtain ⟨F, hmg, hF⟩ := h.mg
  have HF := Lib.hid hF
  have HMG := Lib.hid hmg
  have HS := Lib.hid (Cm.start h)
  clear h hmg hF
  go_enter Try.func32, Try.ntmps32
  go_wp2_with fail
  refine wp_region_pick_tail (Cm w i T []) (Cm w i T []) [0, 1, 2, 3, 5, 6, 7, 8, 10, 11, 12, 13, 15, 16, 17, 18, 20, 21, 22, 23, 24, 25, 26, 27] 4 28 (by kernel_rfl) ?_ (fun _ _ h hb => h.call hb) (fun _ h => h) HS.out ?_
  · kernel_rfl
  repeat (apply pRow_plain
          · exact rfl
          · exact rfl
          · intro wg hg
            ((obtain ⟨c0, c1, c2, c3, c4, c5, -⟩ := hg.tb.box.lay6))
            go_simp
            first
              | exact rfl
              | exact Below.refl _ _
              | exact ⟨Below.refl _ _, rfl⟩
              | ((fail))
          intro K hK
          go_simp
          refine hK _ ?_
          clear hK K)
  refine pRow_nil ?_
  refine lAnyL_step [4] ?_ (by simp) (by decide) ?_
  · kernel_rfl
  intro j hj
  obtain rfl : j = 4 := by simpa using hj
  refine lOp_new rfl rfl (T' := fun b => Cm w i T [(b, F)]) (fun _ _ _ h hb => h.call hb) (fun _ _ h => h.base) ?_ ?_
  · intro wg hg
    go_simp
    exact (mclone_g (HMG.out.below hg.below)).mono fun e w' hp => hg.post hp
  intro b1
  go_simp
  refine lAnyL_step [9] ?_ (by simp) (by decide) ?_
  · kernel_rfl
  intro j hj
  obtain rfl : j = 9 := by simpa using hj
  refine lOp_new rfl rfl (T' := fun b => Cm w i T [(b, fun k => (T.h k).map lv), (b1, F)]) (fun _ _ _ h hb => h.call hb) (fun _ _ h => h.base) ?_ ?_
  · intro wg hg
    go_simp
    exact (mclone_l hg.tb.mh).mono fun e w' hp => hg.post hp
  intro b2
  go_simp
  refine lAnyL_step [14] ?_ (by simp) (by decide) ?_
  · kernel_rfl
  intro j hj
  obtain rfl : j = 14 := by simpa using hj
  refine lOp_new rfl rfl (T' := fun b => Cm w i T [(b, fun k => (T.m k).map lv), (b2, fun k => (T.h k).map lv), (b1, F)]) (fun _ _ _ h hb => h.call hb) (fun _ _ h => h.base) ?_ ?_
  · intro wg hg
    go_simp
    exact (mclone_l hg.tb.mm).mono fun e w' hp => hg.post hp
  intro b3
  go_simp
  refine lAnyL_step [19] ?_ (by simp) (by decide) ?_
  · kernel_rfl
  intro j hj
  obtain rfl : j = 19 := by simpa using hj
  refine lOp_new rfl rfl (T' := fun b => Cm w i T [(b, fun k => (T.u k).map lv), (b3, fun k => (T.m k).map lv), (b2, fun k => (T.h k).map lv), (b1, F)]) (fun _ _ _ h hb => h.call hb) (fun _ _ h => h.base) ?_ ?_
  · intro wg hg
    go_simp
    exact (mclone_u hg.tb.mu).mono fun e w' hp => hg.post hp
  intro b4
  go_simp
  refine ⟨?_, ?_⟩
  · kernel_rfl
  intro wg hg
  have HG := Lib.hid hg
  clear hg
  go_wp2
  go_ret
  exact Cm.out HF.out HG.out
end Go.Proofs.Ytnhpjmjinchamaa
