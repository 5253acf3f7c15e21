/- The walks of New, Term, Advance and Version. -/
import Derived.Test.YtnhpjmjinchamaaTe
set_option linter.unusedVariables false
set_option linter.unusedSimpArgs false
set_option linter.unnecessarySimpa false
namespace Go.Proofs.Ytnhpjmjinchamaa
open Go Go.RowKit Go.MapKept Go.ChangeMaps

def noT : Tb := ⟨fun _ => 0, fun _ => none, fun _ => none, fun _ => none, 0, 0⟩

theorem TbAt.setT {w : World} {i : Ids} {T : Tb} (h : TbAt w i T) (t : Int) : TbAt (w.setCell ⟨i.b, 4, none⟩ (.int .i64 t)) i { T with term := t } := by
  obtain ⟨⟨a1, a2, a3, a4⟩, _⟩ := nd h.apart
  have ho : Only [i.b] w (w.setCell ⟨i.b, 4, none⟩ (.int .i64 t)) := (Only.refl _ _).setCell (.inl (by simp)) _ _
  obtain ⟨F, hF, hG⟩ := h.mg
  exact ⟨h.box.set 4 _, ⟨F, hF.only ho (by simp [a1.symm]), hG⟩, h.mh.only ho (by simp [a2.symm]), h.mm.only ho (by simp [a3.symm]), h.mu.only ho (by simp [a4.symm]), h.apart⟩
theorem TbAt.setC {w : World} {i : Ids} {T : Tb} (h : TbAt w i T) (t : Int) : TbAt (w.setCell ⟨i.b, 5, none⟩ (.int .i64 t)) i { T with count := t } := by
  obtain ⟨⟨a1, a2, a3, a4⟩, _⟩ := nd h.apart
  have ho : Only [i.b] w (w.setCell ⟨i.b, 5, none⟩ (.int .i64 t)) := (Only.refl _ _).setCell (.inl (by simp)) _ _
  obtain ⟨F, hF, hG⟩ := h.mg
  exact ⟨h.box.set 5 _, ⟨F, hF.only ho (by simp [a1.symm]), hG⟩, h.mh.only ho (by simp [a2.symm]), h.mm.only ho (by simp [a3.symm]), h.mu.only ho (by simp [a4.symm]), h.apart⟩

/-- a new map -/
theorem wp_mkmap {P : Program} {t : TypeId} {ops : Array Oper} {rest : List Oper} {o : Oper} {a : Act} {Q : Exit → Act → World → Prop} {w : World} (hg : o.guard = none) (hop : o.op = Op.makeMap t none)
    (hK : ∀ w1, Hid (MapV w1 w.heap.size (fun _ => none) ∧ Below w.heap.size w w1 ∧ w1.heap.size = w.heap.size + 1) → wpList P ops Q rest (a.put o.dst (.map (some w.heap.size))) w1) : wpList P ops Q (o :: rest) a w := by
  refine wpList_plain hg fun K' hK' => ?_
  have hrun : (Instr.makeMap t none).run P w = .ok (.map (some w.heap.size)) (w.alloc (.map #[] 0)) := run_makeMap t w
  unfold Oper.wp
  simp [execOp, hop, hrun, Result.andThen]
  exact hK' _ _ (hK _ ⟨MapV.made w, below_alloc _ _, by simp⟩)

theorem tbAt_new {w w4 : World} {b g h m u : Nat} (hb : Holds w b #[.map none, .map none, .map none, .map none, .int .i64 0, .int .i64 0]) (h4 : Below w.heap.size w w4) (hg : w.heap.size ≤ g) (hgh : g < h) (hhm : h < m) (hmu : m < u)
    (m0 : MapV w4 g fun _ => none) (m1 : MapV w4 h fun _ => none) (m2 : MapV w4 m fun _ => none) (m3 : MapV w4 u fun _ => none) :
    TbAt ((((w4.setCell ⟨b, 0, none⟩ (.map (some g))).setCell ⟨b, 1, none⟩ (.map (some h))).setCell ⟨b, 2, none⟩ (.map (some m))).setCell ⟨b, 3, none⟩ (.map (some u))) ⟨b, g, h, m, u⟩ noT ∧
    Only [b] w ((((w4.setCell ⟨b, 0, none⟩ (.map (some g))).setCell ⟨b, 1, none⟩ (.map (some h))).setCell ⟨b, 2, none⟩ (.map (some m))).setCell ⟨b, 3, none⟩ (.map (some u))) := by
  have hlt := hb.lt
  have hb4 := hb.keep h4
  have hb5 := (((hb4.set 0 (.map (some g))).set 1 (.map (some h))).set 2 (.map (some m))).set 3 (.map (some u))
  have o5 : Only [b] w4 ((((w4.setCell ⟨b, 0, none⟩ (.map (some g))).setCell ⟨b, 1, none⟩ (.map (some h))).setCell ⟨b, 2, none⟩ (.map (some m))).setCell ⟨b, 3, none⟩ (.map (some u))) :=
    ((((Only.refl [b] w4).setCell (.inl (by simp)) _ _).setCell (.inl (by simp)) _ _).setCell (.inl (by simp)) _ _).setCell (.inl (by simp)) _ _
  refine ⟨⟨hb5, ⟨fun _ => none, m0.only o5 (by simp; omega), fun _ => rfl⟩, ?_, ?_, ?_, by simp [Ids.all]; omega⟩, (Only.of_below _ h4).trans o5⟩
  · exact m1.only o5 (by simp; omega)
  · exact m2.only o5 (by simp; omega)
  · exact m3.only o5 (by simp; omega)

def NewPost (w : World) (b : Nat) (e : Ending) (w' : World) : Prop := e = .returned (.tuple #[]) ∧ ∃ i : Ids, i.b = b ∧ (∀ s ∈ i.all, s = b ∨ w.heap.size ≤ s) ∧ TbAt w' i noT ∧ Only [b] w w'

set_option maxRecDepth 20000 in
set_option maxHeartbeats 400000 in
theorem prep_new {w : World} {b : Nat} (hb : Holds w b #[.map none, .map none, .map none, .map none, .int .i64 0, .int .i64 0]) : Calls Try.prog 35 #[.pointer (some ⟨b, 0, none⟩)] w (NewPost w b) := by
  obtain ⟨c0, -⟩ := hb.lay6
  have HB := Lib.hid hb
  clear hb
  have hmm := fun (w : World) (r : Option Nat) => run_eql_map_nil (P := Try.prog) w 64 70 3 r map64
  go_enter Try.func35, Try.ntmps35
  go_wp2_with (first
    | (refine wp_mkmap (t := 64) rfl rfl ?_; intro w1 HM1)
    | (refine wp_mkmap (t := 65) (o := ⟨some 12, _, _, _, _, _⟩) rfl rfl ?_; intro w2 HM2)
    | (refine wp_mkmap (t := 65) (o := ⟨some 13, _, _, _, _, _⟩) rfl rfl ?_; intro w3 HM3)
    | (refine wp_mkmap (t := 66) rfl rfl ?_; intro w4 HM4; have HH4 := Lib.hid ((((HB.out.keep HM1.out.2.1).keep HM2.out.2.1).keep HM3.out.2.1).keep HM4.out.2.1); clear c0; obtain ⟨c0, c1, c2, c3, c4, c5, f0, f1, f2, f3, f4, f5, cl⟩ := HH4.out.lay6))
  go_end0
  obtain ⟨m1, b1, s1⟩ := HM1.out
  obtain ⟨m2, b2, s2⟩ := HM2.out
  obtain ⟨m3, b3, s3⟩ := HM3.out
  obtain ⟨m4, b4, s4⟩ := HM4.out
  have h4 : Below w.heap.size w w4 := ((b1.trans (b2.mono (by omega))).trans (b3.mono (by omega))).trans (b4.mono (by omega))
  obtain ⟨k1, k2⟩ := tbAt_new HB.out h4 (Nat.le_refl _) (by omega) (by omega) (by omega) (((m1.below b2).below b3).below b4) ((m2.below b3).below b4) (m3.below b4) m4
  exact ⟨rfl, _, rfl, by simp [Ids.all]; omega, k1, k2⟩

theorem new_any (w : World) : Calls Try.prog 11 #[] w fun e w' => ∃ i : Ids, e = .returned i.ptr ∧ (∀ s ∈ i.all, w.heap.size ≤ s) ∧ TbAt w' i noT ∧ Below w.heap.size w w' := by
  have HH := Lib.hid (Holds.new w #[.map none, .map none, .map none, .map none, .int .i64 0, .int .i64 0] 68)
  go_enter Try.func11, Try.ntmps11
  go_wp2_with (go_at_call 35; refine (prep_new HH.out).mono ?_; rintro e w1 ⟨rfl, H1⟩; have H2 := Lib.hid H1; clear H1)
  go_ret
  obtain ⟨i, hi, hs, ht, ho⟩ := H2.out
  refine ⟨i, by rw [← hi]; rfl, fun s h => ?_, ht, (below_alloc _ _).trans (ho.below (by simp) (by simp))⟩
  have := hs s h
  simp at this
  omega

theorem term_any {w : World} {i : Ids} {T : Tb} (h : TbAt w i T) : Calls Try.prog 14 #[i.ptr] w fun e w' => e = .returned (.int .i64 T.term) ∧ w = w' := by
  obtain ⟨c0, c1, c2, c3, c4, c5, -⟩ := h.box.lay6
  clear h
  go_enter Try.func14, Try.ntmps14
  go_wp2_with (go_at_call 36; refine (view_any _ _).mono ?_; rintro e w1 ⟨rfl, rfl⟩)
  go_ret
  exact ⟨rfl, rfl⟩
theorem term_as {w : World} {i : Ids} {T : Tb} (h : TbAt w i T) {t : Int} (ht : T.term = t) : Calls Try.prog 14 #[i.ptr] w fun e w' => e = .returned (.int .i64 t) ∧ w = w' := ht ▸ term_any h

def advF (T : Tb) (t : Int) : Int × Tb := if t < 0 ∨ 1048575 < t then (5, T) else if t ≤ T.term then (109, T) else (0, { T with term := t, count := 0 })

theorem adv_any {w : World} {i : Ids} {T : Tb} (h : TbAt w i T) (t : Int) : Calls Try.prog 12 #[i.ptr, .int .i64 t] w (Out w i (advF T t).2 (.int .i64 (advF T t).1)) := by
  unfold advF
  have HT := Lib.hid h
  obtain ⟨n, hn⟩ : ∃ n, T.term = n := ⟨_, rfl⟩
  have HN := Lib.hid hn
  rw [hn]
  obtain ⟨c0, c1, c2, c3, c4, c5, f0, f1, f2, f3, f4, f5, cl⟩ := h.box.lay6
  rw [hn] at c4
  clear hn h
  by_cases h1 : t < 0
  · rw [if_pos (.inl h1)]
    go_enter Try.func12, Try.ntmps12
    go_wp2_with fail
    go_ret
    exact ⟨rfl, HT.out, Only.refl _ _⟩
  by_cases h2 : 1048575 < t
  · rw [if_pos (.inr h2)]
    go_enter Try.func12, Try.ntmps12
    go_wp2_with fail
    go_ret
    exact ⟨rfl, HT.out, Only.refl _ _⟩
  rw [if_neg (by omega)]
  by_cases h3 : t ≤ n
  · rw [if_pos h3]
    go_enter Try.func12, Try.ntmps12
    go_wp2_with (go_at_call 14; refine (term_as HT.out HN.out).mono ?_; rintro e w1 ⟨rfl, rfl⟩)
    go_ret
    exact ⟨rfl, HT.out, Only.refl _ _⟩
  · rw [if_neg h3]
    go_enter Try.func12, Try.ntmps12
    go_wp2_with (go_at_call 14; refine (term_as HT.out HN.out).mono ?_; rintro e w1 ⟨rfl, rfl⟩)
    go_ret
    exact ⟨rfl, (HT.out.setT t).setC 0, ((Only.refl _ _).setCell (.inl (by simp)) _ _).setCell (.inl (by simp)) _ _⟩

def verF (T : Tb) : (Int × Int) × Tb := if T.term = 0 then ((0, 109), T) else if T.count = 1048575 then ((0, 2), T) else ((T.term * 1048576 + (T.count + 1), 0), { T with count := T.count + 1 })

theorem ver_any {w : World} {i : Ids} {T : Tb} (h : TbAt w i T) (h1 : 0 ≤ T.term) (h2 : T.term ≤ 1048575) (h3 : 0 ≤ T.count) (h4 : T.count ≤ 1048575) :
    Calls Try.prog 13 #[i.ptr] w (Out w i (verF T).2 (.tuple #[.int .i64 (verF T).1.1, .int .i64 (verF T).1.2])) := by
  unfold verF
  have HT := Lib.hid h
  obtain ⟨n, hn⟩ : ∃ n, T.term = n := ⟨_, rfl⟩
  obtain ⟨c, hc⟩ : ∃ n, T.count = n := ⟨_, rfl⟩
  have HN := Lib.hid hn
  have HC := Lib.hid hc
  rw [hn, hc]
  obtain ⟨c0, c1, c2, c3, c4, c5, f0, f1, f2, f3, f4, f5, cl⟩ := h.box.lay6
  rw [hn] at c4 h1 h2
  rw [hc] at c5 h3 h4
  clear hn h hc
  by_cases q1 : n = 0
  · rw [if_pos q1]
    subst q1
    go_enter Try.func13, Try.ntmps13
    go_wp2_with (go_at_call 14; refine (term_as HT.out HN.out).mono ?_; rintro e w1 ⟨rfl, rfl⟩)
    go_ret2
    exact ⟨rfl, HT.out, Only.refl _ _⟩
  rw [if_neg q1]
  have q1' : (n == 0) = false := by simpa using q1
  by_cases q2 : c = 1048575
  · rw [if_pos q2]
    subst q2
    go_enter Try.func13, Try.ntmps13
    go_wp2_with (go_at_call 14; refine (term_as HT.out HN.out).mono ?_; rintro e w1 ⟨rfl, rfl⟩)
    go_ret2
    exact ⟨rfl, HT.out, Only.refl _ _⟩
  · rw [if_neg q2]
    have q2' : (c == 1048575) = false := by simpa using q2
    clear q1 q2
    have w1 : IntKind.i64.wrap (n * 1048576) = n * 1048576 := IntWalk.i64_in _ (by omega)
    have w2 : IntKind.i64.wrap (n * 1048576 + (c + 1)) = n * 1048576 + (c + 1) := IntWalk.i64_in _ (by omega)
    have W1 := Lib.hid w1
    have W2 := Lib.hid w2
    clear w1 w2
    go_enter Try.func13, Try.ntmps13
    go_wp2_with (go_at_call 14; refine (term_as HT.out HN.out).mono ?_; rintro e w1 ⟨rfl, rfl⟩)
    have w1 := W1.out
    have w2 := W2.out
    go_quiet (fail)
    go_wp2
    go_ret2
    have ht := (HT.out.setC (c + 1)).below (w' := (w.setCell ⟨i.b, 5, none⟩ (.int .i64 (c + 1))).drewN nq) ⟨rfl, rfl, rfl, Nat.le_refl _, fun _ _ => rfl⟩
    rw [HN.out] at ht
    exact ⟨rfl, ht, ((Only.refl _ _).setCell (.inl (by simp)) _ _).trans (Only.of_below _ ⟨rfl, rfl, rfl, Nat.le_refl _, fun _ _ => rfl⟩)⟩
end Go.Proofs.Ytnhpjmjinchamaa
