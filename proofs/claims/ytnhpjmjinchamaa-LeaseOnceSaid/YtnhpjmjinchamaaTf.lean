/- The walk of Commit. -/
import Derived.Test.YtnhpjmjinchamaaTe
set_option linter.unusedVariables false
set_option linter.unusedSimpArgs false
set_option linter.unnecessarySimpa false
namespace Go.Proofs.Ytnhpjmjinchamaa
open Go Go.RowKit Go.MapKept Go.ChangeMaps

def commitF (T : Tb) (v f : Int) : (Ls × Int) × Tb :=
  if (endF T v f).1.2 = 0 then
    let l := (endF T v f).1.1
    let T1 := (endF T v f).2
    let old := (T1.h (v, f)).getD noL
    ((old, 0), { T1 with h := upd T1.h (v, f) (some { l with mov := false }), u := upd (upd T1.u (old.drive, old.ext) none) (l.drive, l.ext) (some { l with mov := false }) })
  else ((noL, (endF T v f).1.2), (endF T v f).2)

set_option maxHeartbeats 1000000 in
theorem commit_no {w : World} {i : Ids} {T T1 : Tb} (h : TbAt w i T) (v f : Int) {l : Ls} {n : Int} (he : endF T v f = ((l, n), T1)) (hn : n ≠ 0) : Calls Try.prog 18 #[i.ptr, .int .i64 v, .int .i64 f] w (Out w i T1 (.tuple #[lv noL, .int .i64 n])) := by
  have HE := Lib.hid he
  have HS0 := Lib.hid ((St.start h).push w.heap.size (lc noL) 46 rfl)
  have hn1 : (n != 0) = true := by simpa using hn
  clear h he hn
  go_enter Try.func18, Try.ntmps18
  go_wp2_with (go_at_call 39; refine (end_as HS0.out.tb v f HE.out).mono ?_; intro e w1 ho; have HS1 := Lib.hid (Out.st HS0.out ho).2; obtain ⟨rfl, -, -⟩ := ho; obtain ⟨d0, d1, d2, d3, d4, d5, e0, e1, e2, e3, e4, e5, el⟩ := HS1.out.mm.lay6 0 rfl)
  have HS5 := (HS1.out.put6 0 rfl (.int .i64 0) (.int .i64 0) (.int .i64 0) (.int .i64 0) (.int .i64 0) (.bool false)).push w1.heap.size (lc l) 46 (by simp)
  clear d0 d1 d2 d3 d4 d5 e0 e1 e2 e3 e4 e5 el
  refine bodyPost_ret (v := .tuple #[lv noL, .int .i64 n]) ?_ rfl ⟨rfl, HS5.tb, HS5.mm.only⟩
  obtain ⟨c0, c1, c2, c3, c4, c5, -⟩ := HS5.mm.lay6 1 rfl
  simp [results, Try.results18, go_sem, c0, c1, c2, c3, c4, c5]

section
variable {ops : Array Oper} {rest : List Oper} {o : Oper} {a : Act} {w0 : World} {i : Ids} {L : List (Nat × Array Value)} {T : Tb}

/-- a new block among special operations -/
theorem sRow_alloc_st {Q : Act → World → Prop} (c : Array Value) (t : TypeId) (hg : o.guard = none)
    (hr : ∀ w, (execOp a.eval o).run Try.prog w = .ok (.value (.pointer (some ⟨w.heap.size, 0, none⟩))) (w.alloc (.cells c t)))
    (hk : ∀ b, ∀ K : Act → Prop, (∀ a, sRow Try.prog ops (St w0 i L T) Q rest (St w0 i ((b, c) :: L) T) a → K a) → K (a.put o.dst (.pointer (some ⟨b, 0, none⟩)))) :
    sRow Try.prog ops (St w0 i L T) Q (o :: rest) (St w0 i L T) a := by
  refine sRow_step (fun u w => ∃ b, u = .pointer (some ⟨b, 0, none⟩) ∧ St w0 i ((b, c) :: L) T w) hg ?_ ?_ ?_ ?_
  · rintro u w w' ⟨b, rfl, h⟩ hb; exact ⟨b, rfl, h.call hb⟩
  · rintro u w ⟨b, rfl, h⟩; exact ⟨h.mm.drop, h.tb⟩
  · intro w hw
    rw [hr w]
    exact ⟨_, rfl, hw.push _ _ _ rfl⟩
  · rintro u ⟨w, b, rfl, hw⟩ K hK
    refine hk b K fun a ha => hK a ?_
    have e : (fun w => ∃ b', (Value.pointer (some ⟨b, 0, none⟩)) = .pointer (some ⟨b', 0, none⟩) ∧ St w0 i ((b', c) :: L) T w) = St w0 i ((b, c) :: L) T := by
      funext w
      refine propext ⟨?_, fun h => ⟨b, rfl, h⟩⟩
      rintro ⟨b', h, hw⟩
      cases h
      exact hw
    rw [e]
    exact ha

/-- .. and what is stored there -/
theorem sRow_store_st {Q : Act → World → Prop} {b : Nat} {c0 c1 c2 c3 c4 c5 : Value} (a0 a1 a2 a3 a4 a5 : Value) (hg : o.guard = none)
    (hr : ∀ w, Holds w b #[c0, c1, c2, c3, c4, c5] → (execOp a.eval o).run Try.prog w = .ok .skip ((((((w.setCell ⟨b, 0, none⟩ a0).setCell ⟨b, 1, none⟩ a1).setCell ⟨b, 2, none⟩ a2).setCell ⟨b, 3, none⟩ a3).setCell ⟨b, 4, none⟩ a4).setCell ⟨b, 5, none⟩ a5))
    (hk : ∀ K : Act → Prop, (∀ a, sRow Try.prog ops (St w0 i L T) Q rest (St w0 i ((b, #[a0, a1, a2, a3, a4, a5]) :: L) T) a → K a) → K (a.put o.dst undef)) :
    sRow Try.prog ops (St w0 i L T) Q (o :: rest) (St w0 i ((b, #[c0, c1, c2, c3, c4, c5]) :: L) T) a := by
  refine sRow_step (fun u w => u = undef ∧ St w0 i ((b, #[a0, a1, a2, a3, a4, a5]) :: L) T w) hg ?_ ?_ ?_ ?_
  · rintro u w w' ⟨rfl, h⟩ hb; exact ⟨rfl, h.call hb⟩
  · rintro u w ⟨rfl, h⟩; exact ⟨h.mm.drop, h.tb⟩
  · intro w hw
    rw [hr w (hw.mm.at (k := 0) rfl)]
    exact ⟨rfl, hw.put6 0 rfl a0 a1 a2 a3 a4 a5⟩
  · rintro u ⟨w, rfl, hw⟩ K hK
    refine hk K fun a ha => hK a ?_
    have e : (fun w => undef = undef ∧ St w0 i ((b, #[a0, a1, a2, a3, a4, a5]) :: L) T w) = St w0 i ((b, #[a0, a1, a2, a3, a4, a5]) :: L) T := by
      funext w; exact propext ⟨fun h => h.2, fun h => ⟨rfl, h⟩⟩
    rw [e]
    exact ha

/-- some table -/
def StA (w0 : World) (i : Ids) (L : List (Nat × Array Value)) (w : World) : Prop := ∃ T, St w0 i L T w
theorem StA.stable : Stable (StA w0 i L) := fun _ _ ⟨T, h⟩ hb => ⟨T, h.call hb⟩

structure EnH (w0 : World) (i : Ids) (L : List (Nat × Array Value)) (T : Tb) (k : Pk) (s : Int) (w : World) : Prop where
  st : St w0 i L T w
  ent : MapE w i.h k s (fun k => (T.h k).map lv)
structure EnU (w0 : World) (i : Ids) (L : List (Nat × Array Value)) (T : Tb) (k : Pk) (s : Int) (w : World) : Prop where
  st : St w0 i L T w
  ent : MapE w i.u k s (fun k => (T.u k).map lv)
theorem EnH.stable (k : Pk) (s : Int) : Stable (EnH w0 i L T k s) := fun _ _ ⟨h, h1⟩ hb => ⟨h.call hb, h1.below hb⟩
theorem EnU.stable (k : Pk) (s : Int) : Stable (EnU w0 i L T k s) := fun _ _ ⟨h, h1⟩ hb => ⟨h.call hb, h1.below hb⟩
def withH (T : Tb) (k : Pk) (o : Option Ls) : Tb := { T with h := upd T.h k o }
def withU (T : Tb) (k : Pk) (o : Option Ls) : Tb := { T with u := upd T.u k o }

theorem sRow_entry_h {Q : Act → World → Prop} (x y : Operand) (hg : o.guard = none) (hop : o.op = Op.mapEntry 65 x y) (hx : a.eval x = .map (some i.h)) (k : Pk) (hy : a.eval y = kv k)
    (hk : ∀ s, ∀ K : Act → Prop, (∀ a, sRow Try.prog ops (StA w0 i L) Q rest (EnH w0 i L (withH T k (some ((T.h k).getD noL))) k s) a → K a) → K (a.put o.dst (.tuple #[lv ((T.h k).getD noL), .int .i64 s]))) :
    sRow Try.prog ops (StA w0 i L) Q (o :: rest) (St w0 i L T) a := by
  refine sRow_step (fun u w => ∃ s, u = .tuple #[lv ((T.h k).getD noL), .int .i64 s] ∧ EnH w0 i L (withH T k (some ((T.h k).getD noL))) k s w) hg ?_ ?_ ?_ ?_
  · rintro u w w' ⟨s, rfl, h⟩ hb; exact ⟨s, rfl, EnH.stable k s _ _ h hb⟩
  · rintro u w ⟨s, rfl, h⟩; exact ⟨_, h.st⟩
  · intro w hw
    obtain ⟨es, cl, s, hr, hE⟩ := hw.tb.mh.entry pair70 map65 (zero46 w) k
    rw [getD_lv] at hr hE
    simp [execOp, hop, hx, hy, hr, Result.andThen, sUpon]
    refine ⟨hw.turn_h (o := some ((T.h k).getD noL)) hE.mapV (only_setBlock _), ?_⟩
    unfold withH
    rw [upd_lv]
    exact hE
  · rintro u ⟨w, s, rfl, hw⟩ K hK
    refine hk s K fun a ha => hK a ?_
    have e : (fun w => ∃ s', (Value.tuple #[lv ((T.h k).getD noL), .int .i64 s]) = .tuple #[lv ((T.h k).getD noL), .int .i64 s'] ∧ EnH w0 i L (withH T k (some ((T.h k).getD noL))) k s' w) = EnH w0 i L (withH T k (some ((T.h k).getD noL))) k s := by
      funext w
      refine propext ⟨?_, fun h => ⟨s, rfl, h⟩⟩
      rintro ⟨s', h, hw⟩
      simp at h
      subst h
      exact hw
    rw [e]
    exact ha
theorem sRow_entry_u {Q : Act → World → Prop} (x y : Operand) (hg : o.guard = none) (hop : o.op = Op.mapEntry 66 x y) (hx : a.eval x = .map (some i.u)) (k : Pk) (hy : a.eval y = kv k)
    (hk : ∀ s, ∀ K : Act → Prop, (∀ a, sRow Try.prog ops (StA w0 i L) Q rest (EnU w0 i L (withU T k (some ((T.u k).getD noL))) k s) a → K a) → K (a.put o.dst (.tuple #[lv ((T.u k).getD noL), .int .i64 s]))) :
    sRow Try.prog ops (StA w0 i L) Q (o :: rest) (St w0 i L T) a := by
  refine sRow_step (fun u w => ∃ s, u = .tuple #[lv ((T.u k).getD noL), .int .i64 s] ∧ EnU w0 i L (withU T k (some ((T.u k).getD noL))) k s w) hg ?_ ?_ ?_ ?_
  · rintro u w w' ⟨s, rfl, h⟩ hb; exact ⟨s, rfl, EnU.stable k s _ _ h hb⟩
  · rintro u w ⟨s, rfl, h⟩; exact ⟨_, h.st⟩
  · intro w hw
    obtain ⟨es, cl, s, hr, hE⟩ := hw.tb.mu.entry pair72 map66 (zero46 w) k
    rw [getD_lv] at hr hE
    simp [execOp, hop, hx, hy, hr, Result.andThen, sUpon]
    refine ⟨hw.turn_u (o := some ((T.u k).getD noL)) hE.mapV (only_setBlock _), ?_⟩
    unfold withU
    rw [upd_lv]
    exact hE
  · rintro u ⟨w, s, rfl, hw⟩ K hK
    refine hk s K fun a ha => hK a ?_
    have e : (fun w => ∃ s', (Value.tuple #[lv ((T.u k).getD noL), .int .i64 s]) = .tuple #[lv ((T.u k).getD noL), .int .i64 s'] ∧ EnU w0 i L (withU T k (some ((T.u k).getD noL))) k s' w) = EnU w0 i L (withU T k (some ((T.u k).getD noL))) k s := by
      funext w
      refine propext ⟨?_, fun h => ⟨s, rfl, h⟩⟩
      rintro ⟨s', h, hw⟩
      simp at h
      subst h
      exact hw
    rw [e]
    exact ha

theorem sRow_estore_h {Q : Act → World → Prop} (x y u : Operand) (hg : o.guard = none) (hop : o.op = Op.entryStore 65 x y u) (hx : a.eval x = .map (some i.h)) {k : Pk} {s : Int} (hy : a.eval y = .int .i64 s) (l : Ls) (hv : a.eval u = lv l)
    (hk : ∀ K : Act → Prop, (∀ a, sRow Try.prog ops (StA w0 i L) Q rest (St w0 i L (withH T k (some l))) a → K a) → K (a.put o.dst undef)) :
    sRow Try.prog ops (StA w0 i L) Q (o :: rest) (EnH w0 i L T k s) a := by
  refine sRow_step (fun u w => u = undef ∧ St w0 i L (withH T k (some l)) w) hg ?_ ?_ ?_ ?_
  · rintro u w w' ⟨rfl, h⟩ hb; exact ⟨rfl, h.call hb⟩
  · rintro u w ⟨rfl, h⟩; exact ⟨_, h⟩
  · intro w hw
    obtain ⟨es, cl, hr, hE⟩ := hw.ent.store (P := Try.prog) (m := 65) (lv l)
    simp [execOp, hop, hx, hy, hv, hr, Result.andThen, sUpon]
    exact hw.st.turn_h (o := some l) hE (only_setBlock _)
  · rintro u ⟨w, rfl, hw⟩ K hK
    refine hk K fun a ha => hK a ?_
    have e : (fun w => undef = undef ∧ St w0 i L (withH T k (some l)) w) = St w0 i L (withH T k (some l)) := by
      funext w; exact propext ⟨fun h => h.2, fun h => ⟨rfl, h⟩⟩
    rw [e]
    exact ha
theorem sRow_estore_u {Q : Act → World → Prop} (x y u : Operand) (hg : o.guard = none) (hop : o.op = Op.entryStore 66 x y u) (hx : a.eval x = .map (some i.u)) {k : Pk} {s : Int} (hy : a.eval y = .int .i64 s) (l : Ls) (hv : a.eval u = lv l)
    (hk : ∀ K : Act → Prop, (∀ a, sRow Try.prog ops (StA w0 i L) Q rest (St w0 i L (withU T k (some l))) a → K a) → K (a.put o.dst undef)) :
    sRow Try.prog ops (StA w0 i L) Q (o :: rest) (EnU w0 i L T k s) a := by
  refine sRow_step (fun u w => u = undef ∧ St w0 i L (withU T k (some l)) w) hg ?_ ?_ ?_ ?_
  · rintro u w w' ⟨rfl, h⟩ hb; exact ⟨rfl, h.call hb⟩
  · rintro u w ⟨rfl, h⟩; exact ⟨_, h⟩
  · intro w hw
    obtain ⟨es, cl, hr, hE⟩ := hw.ent.store (P := Try.prog) (m := 66) (lv l)
    simp [execOp, hop, hx, hy, hv, hr, Result.andThen, sUpon]
    exact hw.st.turn_u (o := some l) hE (only_setBlock _)
  · rintro u ⟨w, rfl, hw⟩ K hK
    refine hk K fun a ha => hK a ?_
    have e : (fun w => undef = undef ∧ St w0 i L (withU T k (some l)) w) = St w0 i L (withU T k (some l)) := by
      funext w; exact propext ⟨fun h => h.2, fun h => ⟨rfl, h⟩⟩
    rw [e]
    exact ha
end
end Go.Proofs.Ytnhpjmjinchamaa
