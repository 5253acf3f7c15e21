/- A range over a map whose keys are pairs of integers. -/
import Derived.Test.YtnhpjmjinchamaaMq
import Derived.Maps.RangeRun
import Derived.Maps.Range
import Derived.Test.YtnhpjmjinchamaaSo11
import Derived.Test.YtnhpjmjinchamaaLy
import Derived.Test.YtnhpjmjinchamaaRc
import Derived.Test.YtnhpjmjinchamaaPl
import Derived.Test.YtnhpjmjinchamaaSl
import Derived.Test.YtnhpjmjinchamaaTj
set_option linter.unusedVariables false
set_option linter.unusedSimpArgs false
set_option linter.unnecessarySimpa false
namespace Go.Proofs.Ytnhpjmjinchamaa
open Go Go.RowKit Go.MapKept Go.ChangeMaps

/-- a range by the iterator in block r over the map in block b that holds F; Lf is still to come -/
def RgV (w : World) (b r : Nat) (F Lf : Pk → Option Value) (cnt : Nat) : Prop :=
  ∃ (es : Array MapEntry) (clock since : Nat) (seen : Array Nat) (c0 : Nat), w.heap[b]? = some (.map es clock) ∧ Stamped es clock ∧ (∀ x ∈ es.toList, ∃ k, x.key = kv k) ∧ (∀ k v, F k = some v ↔ ∃ x ∈ es.toList, x.key = kv k ∧ x.val = v) ∧
    w.heap[r]? = some (.mapIter (some b) since seen c0) ∧ (∀ x ∈ es.toList, x.born < since) ∧ (leftOf es seen).size = cnt ∧ since ≤ c0 ∧ since ≤ clock ∧
    ∀ k v, Lf k = some v ↔ ∃ x ∈ es.toList, seen.contains x.born = false ∧ x.key = kv k ∧ x.val = v
section
variable {w w' : World} {b r cnt : Nat} {F Lf : Pk → Option Value}
theorem RgV.lt (h : RgV w b r F Lf cnt) : b < w.heap.size ∧ r < w.heap.size := by
  obtain ⟨es, clock, since, seen, c0, h1, h2, h3, h4, h5, _⟩ := h
  exact ⟨(Array.getElem?_eq_some_iff.1 h1).1, (Array.getElem?_eq_some_iff.1 h5).1⟩
theorem RgV.ne (h : RgV w b r F Lf cnt) : r ≠ b := by
  obtain ⟨es, clock, since, seen, c0, h1, h2, h3, h4, h5, _⟩ := h
  intro e
  rw [e, h1] at h5
  cases h5
theorem RgV.only {S : List Nat} (h : RgV w b r F Lf cnt) (ho : Only S w w') (hb : b ∉ S) (hr : r ∉ S) : RgV w' b r F Lf cnt := by
  have hl := h.lt
  obtain ⟨es, clock, since, seen, c0, h1, h2, h3, h4, h5, h6⟩ := h
  exact ⟨es, clock, since, seen, c0, (ho.block b hl.1 hb).trans h1, h2, h3, h4, (ho.block r hl.2 hr).trans h5, h6⟩
theorem RgV.below (h : RgV w b r F Lf cnt) (hb : Below w.heap.size w w') : RgV w' b r F Lf cnt := h.only (S := []) (Only.of_below _ hb) (by simp) (by simp)

variable {P : Program} {ops : Array Oper} {rest : List Oper} {o : Oper} {a : Act} {Q : Exit → Act → World → Prop}
theorem wpList_range_v (hg : o.guard = none) (m : Operand) (t k e : TypeId) (hop : o.op = Op.range t m) (ht : P.underlying t = some (.map k e)) (hm : a.eval m = .map (some b)) (h : MapV w b F)
    (hK : ∀ w' cnt, Hid (RgV w' b w.heap.size F F cnt) → Hid (Below w.heap.size w w') → wpList P ops Q rest (a.put o.dst (.pointer (some ⟨w.heap.size, 0, none⟩))) w') : wpList P ops Q (o :: rest) a w := by
  have hlt := h.lt
  obtain ⟨es, clock, hb, hs, h3, h4⟩ := h
  refine wpList_plain hg fun K' hK' => ?_
  have hrun := run_range_map w t k e b es clock ht hb
  unfold Oper.wp
  simp [execOp, hop, hm, hrun, Result.andThen]
  refine hK' _ _ (hK _ _ ⟨es, clock, clock, #[], clock, ((MapKept.heap_alloc w _).2 b hlt).trans hb, hs, h3, h4, (MapKept.heap_alloc w _).1, hs.1, rfl, Nat.le_refl _, Nat.le_refl _, fun k' v => ?_⟩ (below_alloc w _))
  rw [h4]
  simp
theorem wpList_next_v (hg : o.guard = none) (it : Operand) (hop : o.op = Op.next it false) (hit : a.eval it = .pointer (some ⟨r, 0, none⟩)) (h : RgV w b r F Lf cnt)
    (hDone : cnt = 0 → (∀ k, Lf k = none) → wpList P ops Q rest (a.put o.dst (.tuple #[.bool false])) w)
    (hMore : ∀ (k : Pk) (v : Value) (w' : World) (cnt' : Nat), Lf k = some v → Hid (RgV w' b r F (upd Lf k none) cnt') → cnt' < cnt → Hid (Only [r] w w') →
      (Instr.entry (.pointer (some ⟨r, 0, none⟩))).run P w' = .ok (.tuple #[kv k, v]) w' → wpList P ops Q rest (a.put o.dst (.tuple #[.bool true, kv k, v])) w') :
    wpList P ops Q (o :: rest) a w := by
  have hne := h.ne
  obtain ⟨es, clock, since, seen, c0, hb, hs, h3, h4, hr, hold, hc, hsc, hsk, hl⟩ := h
  refine wpList_plain hg fun K' hK' => ?_
  unfold Oper.wp
  rcases run_next_at (P := P) w o.type r b since c0 seen es clock hr hb hold hsc with ⟨h0, hrun⟩ | ⟨e, he, w1, hal, hrun⟩
  · simp [execOp, hop, hit, hrun, Result.andThen]
    refine hK' _ _ (hDone (hc.symm.trans h0) fun k => ?_)
    cases hk : Lf k with
    | none => rfl
    | some v =>
      obtain ⟨x, hx, hn, _⟩ := (hl k v).1 hk
      rw [all_seen es seen h0 x hx] at hn
      cases hn
  · obtain ⟨hem, hes⟩ := mem_left he
    obtain ⟨k, hk⟩ := h3 e hem
    have hr1 : w1.heap[r]? = some (.mapIter (some b) since seen c0) := by rcases hal with rfl | rfl <;> exact hr
    have hb1 : w1.heap[b]? = some (.map es clock) := by rcases hal with rfl | rfl <;> exact hb
    have hset := heap_set (o' := .mapIter (some b) since (seen.push e.born) clock) hr1
    have hb' : (setBlock w1 r (.mapIter (some b) since (seen.push e.born) clock)).heap[b]? = some (.map es clock) := (hset.2 b (fun e1 => hne e1.symm)).trans hb1
    have hent := run_entry_at (P := P) _ r b since seen es clock e hset.1 hb' hem hs.2.1
    rw [hk] at hent hrun
    simp [execOp, hop, hit, hrun, Result.andThen]
    refine hK' _ _ (hMore k e.val _ _ ((hl k e.val).2 ⟨e, hem, hes, hk, rfl⟩) ⟨es, clock, since, seen.push e.born, clock, hb', hs, h3, h4, hset.1, hold, rfl, hsk, hsk, fun k' v => ?_⟩ (by rw [← hc]; exact left_shrinks es seen e he) ?_ hent)
    · have hcp : ∀ x : MapEntry, (seen.push e.born).contains x.born = (seen.contains x.born || (x.born == e.born)) := fun x => contains_push ..
      by_cases hkk : k' = k
      · subst hkk
        rw [upd_same]
        refine ⟨fun q => (by cases q), ?_⟩
        rintro ⟨x, hx, hn, hxk, _⟩
        have : x = e := apart hs hx hem (hxk.trans hk.symm)
        subst this
        rw [hcp] at hn
        simp at hn
      · rw [upd_other _ _ hkk, hl]
        refine exists_congr fun x => and_congr_right fun hx => and_congr_left fun ⟨hxk, _⟩ => ?_
        rw [hcp]
        have : x.born ≠ e.born := fun q => by
          have he2 : x = e := born_inj hs.2.1 hx hem q
          subst he2
          exact hkk (kv_inj (hxk.symm.trans hk))
        simp [this]
    · rcases hal with rfl | rfl <;> exact ⟨rfl, rfl, rfl, by simp [setBlock], fun i _ hi => hset.2 i (fun e1 => hi (by simp [e1]))⟩
end
end Go.Proofs.Ytnhpjmjinchamaa

/- The closure of Leases: it lays two leases and compares them. -/
namespace Go.Proofs.Ytnhpjmjinchamaa
open Go Go.RowKit Go.MapKept

instance : Inhabited Ls := ⟨noL⟩
def encL (l : Ls) : List Value := (lc l).toList
theorem encL_len (l : Ls) : (encL l).length = 6 := rfl
theorem encL_one (l : Ls) : ∀ v ∈ encL l, v.oneCell' = true := fun v hv => by
  simp [encL] at hv
  rcases hv with rfl | rfl | rfl | rfl | rfl | rfl <;> rfl
/-- a pointer to a new block that holds c -/
def Pn (wr : World) (c : Array Value) (u : Value) (w : World) : Prop := ∃ b, u = .pointer (some ⟨b, 0, none⟩) ∧ Holds w b c ∧ wr.heap.size ≤ b ∧ Below wr.heap.size wr w
theorem Pn.grow {wr wa wb : World} {c : Array Value} {u : Value} (h : Pn wr c u wa) (hb : Below wa.heap.size wa wb) : Pn wr c u wb := by
  obtain ⟨b, h1, h2, h3, h4⟩ := h
  exact ⟨b, h1, h2.keep hb, h3, h4.trans (hb.mono h4.size)⟩
theorem Pn.below {wr w : World} {c : Array Value} {u : Value} (h : Pn wr c u w) : Below wr.heap.size wr w := by
  obtain ⟨b, h1, h2, h3, h4⟩ := h
  exact h4
/-- two of them -/
def Pn2 (wr : World) (c c' : Array Value) (u u' : Value) (w : World) : Prop := ∃ b b', u = .pointer (some ⟨b, 0, none⟩) ∧ u' = .pointer (some ⟨b', 0, none⟩) ∧ b ≠ b' ∧ Holds w b c ∧ Holds w b' c' ∧ wr.heap.size ≤ b ∧ wr.heap.size ≤ b' ∧ Below wr.heap.size wr w
theorem Pn2.grow {wr wa wb : World} {c c' : Array Value} {u u' : Value} (h : Pn2 wr c c' u u' wa) (hb : Below wa.heap.size wa wb) : Pn2 wr c c' u u' wb := by
  obtain ⟨b, b', h1, h2, h3, h4, h5, h6, h7, h8⟩ := h
  exact ⟨b, b', h1, h2, h3, h4.keep hb, h5.keep hb, h6, h7, h8.trans (hb.mono h8.size)⟩
theorem Pn2.below {wr w : World} {c c' : Array Value} {u u' : Value} (h : Pn2 wr c c' u u' w) : Below wr.heap.size wr w := by
  obtain ⟨b, b', h1, h2, h3, h4, h5, h6, h7, h8⟩ := h
  exact h8
theorem Pn.new {wr w : World} (h : Below wr.heap.size wr w) (c : Array Value) (t : TypeId) : Pn wr c (.pointer (some ⟨w.heap.size, 0, none⟩)) (w.alloc (.cells c t)) :=
  ⟨_, rfl, Holds.new _ _ _, h.size, h.alloc h.size _⟩
theorem Pn.snd {wr w : World} {c : Array Value} {u : Value} (h : Pn wr c u w) (c' : Array Value) (t : TypeId) : Pn2 wr c c' u (.pointer (some ⟨w.heap.size, 0, none⟩)) (w.alloc (.cells c' t)) := by
  obtain ⟨b, h1, h2, h3, h4⟩ := h
  exact ⟨b, _, h1, rfl, Nat.ne_of_lt h2.lt, h2.keep (below_alloc _ _), Holds.new _ _ _, h3, h4.size, h4.alloc h4.size _⟩
theorem Pn.fst {wr w : World} {c : Array Value} {u : Value} (h : Pn wr c u w) (c' : Array Value) (t : TypeId) : Pn2 wr c' c (.pointer (some ⟨w.heap.size, 0, none⟩)) u (w.alloc (.cells c' t)) := by
  obtain ⟨b, h1, h2, h3, h4⟩ := h
  exact ⟨_, b, rfl, h1, (Nat.ne_of_lt h2.lt).symm, Holds.new _ _ _, h2.keep (below_alloc _ _), h4.size, h3, h4.alloc h4.size _⟩
abbrev zc : Array Value := #[.int .i64 0, .int .i64 0, .int .i64 0, .int .i64 0, .int .i64 0, .bool false]
set_option maxHeartbeats 4000000 in
set_option maxRecDepth 20000 in
theorem closure_any (bo blk n c i j : Nat) (d : Array Ls) (w : World) (hn : d.size = n) (hc : n ≤ c ∧ c ≤ 9223372036854775807) (hbo : bo < w.heap.size) (hbox : w.cell? ⟨bo, 0, none⟩ = some (.slice (some ⟨blk, 0, none⟩) n c)) (hb : blk < w.heap.size) (hH : Go.Sort.HoldsK encL 6 w blk 0 d) (hi : i < n) (hj : j < n) :
    Calls Try.prog 45 #[.int .i64 i, .int .i64 j, .pointer (some ⟨bo, 0, none⟩)] w fun e w' => e = .returned (.bool (beforeB d[i]! d[j]!)) ∧ Below w.heap.size w w' := by
  have ci : ∀ k, k < 6 → w.cell? ⟨blk, i * 6 + k, none⟩ = some (encL d[i]!)[k]! := fun k hk => by
    have := (hH.cell (i := i) (c := k) (by omega) hk).1
    rwa [Nat.zero_add] at this
  have cj : ∀ k, k < 6 → w.cell? ⟨blk, j * 6 + k, none⟩ = some (encL d[j]!)[k]! := fun k hk => by
    have := (hH.cell (i := j) (c := k) (by omega) hk).1
    rwa [Nat.zero_add] at this
  clear hH
  generalize d[i]! = x at *
  generalize d[j]! = y at *
  obtain ⟨v1, f1, d1, e1, g1, m1⟩ := x
  obtain ⟨v2, f2, d2, e2, g2, m2⟩ := y
  have a0 : w.cell? ⟨blk, i * 6, none⟩ = some (.int .i64 v1) := ci 0 (by omega)
  have a1 : w.cell? ⟨blk, i * 6 + 1, none⟩ = some (.int .i64 f1) := ci 1 (by omega)
  have a2 : w.cell? ⟨blk, i * 6 + 2, none⟩ = some (.int .i64 d1) := ci 2 (by omega)
  have a3 : w.cell? ⟨blk, i * 6 + 3, none⟩ = some (.int .i64 e1) := ci 3 (by omega)
  have a4 : w.cell? ⟨blk, i * 6 + 4, none⟩ = some (.int .i64 g1) := ci 4 (by omega)
  have a5 : w.cell? ⟨blk, i * 6 + 5, none⟩ = some (.bool m1) := ci 5 (by omega)
  have b0 : w.cell? ⟨blk, j * 6, none⟩ = some (.int .i64 v2) := cj 0 (by omega)
  have b1 : w.cell? ⟨blk, j * 6 + 1, none⟩ = some (.int .i64 f2) := cj 1 (by omega)
  have b2 : w.cell? ⟨blk, j * 6 + 2, none⟩ = some (.int .i64 d2) := cj 2 (by omega)
  have b3 : w.cell? ⟨blk, j * 6 + 3, none⟩ = some (.int .i64 e2) := cj 3 (by omega)
  have b4 : w.cell? ⟨blk, j * 6 + 4, none⟩ = some (.int .i64 g2) := cj 4 (by omega)
  have b5 : w.cell? ⟨blk, j * 6 + 5, none⟩ = some (.bool m2) := cj 5 (by omega)
  clear ci cj hn
  obtain ⟨r, hr⟩ : ∃ r, beforeB ⟨v1, f1, d1, e1, g1, m1⟩ ⟨v2, f2, d2, e2, g2, m2⟩ = r := ⟨_, rfl⟩
  have HQ := Lib.hid hr
  rw [hr]
  clear hr
  go_enter Try.func45, Try.ntmps45
  go_wp2_with fail
  refine wp_region_pick (Below w.heap.size w) (Below w.heap.size w) [0, 1, 2, 3, 4, 5, 6, 7] 4 (by kernel_rfl) (by kernel_rfl) rfl ?_ (fun wa wb h1 h2 => h1.trans (h2.mono h1.size)) (fun _ h => h) (Below.refl _ _) ?_
  · kernel_rfl
  repeat (apply pRow_plain
          · exact rfl
          · exact rfl
          · intro wg hg
            ((have k0 := (hg.cell (p := ⟨bo, 0, none⟩) hbo).trans hbox; have x0 := (hg.cell (p := ⟨blk, i * 6, none⟩) hb).trans a0; have x1 := (hg.cell (p := ⟨blk, i * 6 + 1, none⟩) hb).trans a1; have x2 := (hg.cell (p := ⟨blk, i * 6 + 2, none⟩) hb).trans a2; have x3 := (hg.cell (p := ⟨blk, i * 6 + 3, none⟩) hb).trans a3; have x4 := (hg.cell (p := ⟨blk, i * 6 + 4, none⟩) hb).trans a4; have x5 := (hg.cell (p := ⟨blk, i * 6 + 5, none⟩) hb).trans a5; have y0 := (hg.cell (p := ⟨blk, j * 6, none⟩) hb).trans b0; have y1 := (hg.cell (p := ⟨blk, j * 6 + 1, none⟩) hb).trans b1; have y2 := (hg.cell (p := ⟨blk, j * 6 + 2, none⟩) hb).trans b2; have y3 := (hg.cell (p := ⟨blk, j * 6 + 3, none⟩) hb).trans b3; have y4 := (hg.cell (p := ⟨blk, j * 6 + 4, none⟩) hb).trans b4; have y5 := (hg.cell (p := ⟨blk, j * 6 + 5, none⟩) hb).trans b5))
            go_simp
            first
              | exact rfl
              | exact Below.refl _ _
              | exact ⟨Below.refl _ _, rfl⟩
              | ((fail))
          intro K hK
          go_simp
          refine hK _ ?_
          clear hK K)
  refine pRow_nil ?_
  refine lAny_two 8 9 rfl rfl ?_ rfl rfl (Pn w zc) (Pn w zc) (Pn2 w zc zc) (fun u wa wb h hb => h.grow hb) (fun u wa wb h hb => h.grow hb) (fun u u' wa wb h hb => h.grow hb) (fun u w h => h.below) (fun u w h => h.below) (fun u u' w h => h.below) ?_ ?_ ?_ ?_ ?_
  · kernel_rfl
  · intro wg hg
    go_simp
    exact Pn.new hg zc 46
  · intro wg hg
    go_simp
    exact Pn.new hg zc 46
  · intro u wg hg
    go_simp
    exact hg.snd zc 46
  · intro u' wg hg
    go_simp
    exact hg.fst zc 46
  rintro u u' ⟨wz, p, q, rfl, rfl, hpq, -⟩ K hK
  go_simp
  refine hK _ ?_
  clear hK K
  refine lAny_step [10] ?_ (by decide) ?_
  · kernel_rfl
  intro jj hj
  obtain rfl : jj = 10 := by simpa using hj
  refine lOp_special' rfl (fun u wx => u = undef ∧ Pn2 w (lc ⟨v1, f1, d1, e1, g1, m1⟩) zc (.pointer (some ⟨p, 0, none⟩)) (.pointer (some ⟨q, 0, none⟩)) wx) rfl (fun _ wa wb h1 hb => ⟨h1.1, h1.2.grow hb⟩) (fun _ w h => h.2.below) ?_ ?_
  · rintro wg ⟨p', q', e1, e2, hne, hp, hq, hpl, hql, hbl⟩
    cases e1
    cases e2
    obtain ⟨z0, z1, z2, z3, z4, z5, z0f, z1f, z2f, z3f, z4f, z5f, zl⟩ := (hp).lay6
    go_simp
    exact ⟨p, q, rfl, rfl, hne, (((((hp.set 0 _).set 1 _).set 2 _).set 3 _).set 4 _).set 5 _, (((((hq.other hne 0 _).other hne 1 _).other hne 2 _).other hne 3 _).other hne 4 _).other hne 5 _, hpl, hql, (((((hbl.setCell hpl _).setCell hpl _).setCell hpl _).setCell hpl _).setCell hpl _).setCell hpl _⟩
  rintro u ⟨wz, rfl, -⟩
  go_simp
  refine lAny_step [11] ?_ (by decide) ?_
  · kernel_rfl
  intro jj hj
  obtain rfl : jj = 11 := by simpa using hj
  refine lOp_special' rfl (fun u wx => u = undef ∧ Pn2 w (lc ⟨v1, f1, d1, e1, g1, m1⟩) (lc ⟨v2, f2, d2, e2, g2, m2⟩) (.pointer (some ⟨p, 0, none⟩)) (.pointer (some ⟨q, 0, none⟩)) wx) rfl (fun _ wa wb h1 hb => ⟨h1.1, h1.2.grow hb⟩) (fun _ w h => h.2.below) ?_ ?_
  · intro wg hg
    obtain ⟨p', q', e1, e2, hne, hp, hq, hpl, hql, hbl⟩ : Pn2 w (lc ⟨v1, f1, d1, e1, g1, m1⟩) zc (.pointer (some ⟨p, 0, none⟩)) (.pointer (some ⟨q, 0, none⟩)) wg := by first | exact hg | exact hg.2
    cases e1
    cases e2
    obtain ⟨z0, z1, z2, z3, z4, z5, z0f, z1f, z2f, z3f, z4f, z5f, zl⟩ := (hq).lay6
    go_simp
    exact ⟨p, q, rfl, rfl, hne, (((((hp.other hne.symm 0 _).other hne.symm 1 _).other hne.symm 2 _).other hne.symm 3 _).other hne.symm 4 _).other hne.symm 5 _, (((((hq.set 0 _).set 1 _).set 2 _).set 3 _).set 4 _).set 5 _, hpl, hql, (((((hbl.setCell hql _).setCell hql _).setCell hql _).setCell hql _).setCell hql _).setCell hql _⟩
  rintro u ⟨wz, rfl, -⟩
  go_simp
  refine lAny_end ?_ ?_
  · kernel_rfl
  intro w2 hg
  obtain ⟨p', q', e1, e2, hne, hp, hq, hpl, hql, hbl⟩ : Pn2 w (lc ⟨v1, f1, d1, e1, g1, m1⟩) (lc ⟨v2, f2, d2, e2, g2, m2⟩) (.pointer (some ⟨p, 0, none⟩)) (.pointer (some ⟨q, 0, none⟩)) w2 := by first | exact hg | exact hg.2
  cases e1
  cases e2
  obtain ⟨r0, r1, r2, r3, r4, r5, r0f, r1f, r2f, r3f, r4f, r5f, rl⟩ := (hp).lay6
  obtain ⟨s0, s1, s2, s3, s4, s5, s0f, s1f, s2f, s3f, s4f, s5f, sl⟩ := (hq).lay6
  have HB := Lib.hid hbl
  clear hp hq hpl hql hbl hg a0 a1 a2 a3 a4 a5 b0 b1 b2 b3 b4 b5 hbox hpq
  have hq0 := HQ.out
  unfold beforeB at hq0
  simp only at hq0
  obtain ⟨q1, h1⟩ : ∃ q, (v1 != v2) = q := ⟨_, rfl⟩
  obtain ⟨q2, h2⟩ : ∃ q, (f1 != f2) = q := ⟨_, rfl⟩
  rw [h1, h2] at hq0
  clear HQ
  have H0 := Lib.hid hq0
  clear hq0
  cases q1 with
  | true =>
    go_wp2_with fail
    go_ret
    exact ⟨congrArg (fun b => Ending.returned (.bool b)) H0.out, HB.out⟩
  | false =>
    cases q2 with
    | true =>
      go_wp2_with fail
      go_ret
      exact ⟨congrArg (fun b => Ending.returned (.bool b)) H0.out, HB.out⟩
    | false =>
      cases m1 <;> cases m2
      all_goals
        go_wp2_with fail
        go_ret
        exact ⟨congrArg (fun b => Ending.returned (.bool b)) H0.out, HB.out⟩
end Go.Proofs.Ytnhpjmjinchamaa

/- Leases: the list that it builds, its box, the sort in place. -/
namespace Go.Proofs.Ytnhpjmjinchamaa
open Go Go.RowKit Go.MapKept

/-- v is a slice that reads as L -/
def RdL (w : World) (v : Value) (L : List Ls) : Prop :=
  ∃ a cap, v = .slice a L.length cap ∧ L.length ≤ cap ∧ cap ≤ 9223372036854775807 ∧ (L = [] ∨ ∃ b off, a = some ⟨b, off, none⟩ ∧ b < w.heap.size ∧ ∀ j u, (flat L)[j]? = some u → w.cell? ⟨b, off + j, none⟩ = some u)
theorem RdL.keep {w w' : World} {v : Value} {L : List Ls} (h : RdL w v L) (hb : Below w.heap.size w w') : RdL w' v L := by
  obtain ⟨a, cap, rfl, h1, h2, h⟩ := h
  refine ⟨a, cap, rfl, h1, h2, ?_⟩
  rcases h with h | ⟨b, off, rfl, hlt, hc⟩
  · exact .inl h
  · exact .inr ⟨b, off, rfl, Nat.lt_of_lt_of_le hlt hb.size, fun j u hu => (hb.cell (p := ⟨b, off + j, none⟩) hlt).trans (hc j u hu)⟩
theorem RdL.at {w : World} {a : Option Addr} {n cap : Nat} {L : List Ls} (h : RdL w (.slice a n cap) L) {i : Nat} {l : Ls} (hi : L[i]? = some l) :
    ∃ b off, a = some ⟨b, off, none⟩ ∧ b < w.heap.size ∧ ∀ j v, (lc l)[j]? = some v → w.cell? ⟨b, off + i * 6 + j, none⟩ = some v := by
  obtain ⟨a', cap', e, _, _, h⟩ := h
  cases e
  rcases h with h | ⟨b, off, rfl, hlt, hc⟩
  · subst h; simp at hi
  · exact ⟨b, off, rfl, hlt, fun j v hv => by rw [Nat.add_assoc]; exact hc _ v (flat_get L i j l v hi hv)⟩

/-- append of one lease, laid in a block of its own: which blocks turn -/
theorem append_one {w0 W : World} {v : Value} {n : Nat} {xs : List Value} (h : AS w0 46 6 v n xs [] W) (l : Ls) (hn : n ≤ 9000) (ty : TypeId) :
    ∃ v' w', (Builtin.append_ #[37, 37] ty #[v, .slice (some ⟨W.heap.size, 0, none⟩) 1 1]).run Try.prog (W.alloc (.cells (lc l) 46)) = .ok v' w' ∧ AS w0 46 6 v' (n + 1) (xs ++ (lc l).toList) [] w' ∧ (W.alloc (.cells (lc l) 46)).grownBy w' v.ownBlock ∧ (v'.ownBlock = v.ownBlock ∨ v'.ownBlock = some (W.heap.size + 1)) := by
  obtain ⟨i, z, hi, hz, hsz, hby, hzs⟩ := elt37.info
  have h' := h.grow (below_alloc W (.cells (lc l) 46))
  obtain ⟨v', w', hr, h2, h3, _, h5⟩ := run_append_own_at (P := Try.prog) (W.alloc (.cells (lc l) 46)) w0.heap.size 37 ty 46 i z 6 48 elt37.und hi hz hsz hby hzs elt37.pos v n xs h'.row ⟨W.heap.size, 0, none⟩ 1 1 (lc l).toList (by simp) (fun j u hu => by
    rw [add_off, World.cell?_alloc_at _ _ _ _ (by simp)]
    simpa using hu) (encL_one l) (by unfold maxLen; omega) (by omega) h'.below.size
  have e : (W.alloc (.cells (lc l) 46)).heap.size = W.heap.size + 1 := by simp
  rw [e] at h5
  exact ⟨v', w', hr, h'.grown h2 h3 (by rw [e]; exact h5), h3, h5⟩

/-- the list so far, and the variable that holds it -/
structure Cx (wq wi : World) (b : Nat) (p : Option Addr) (n c : Nat) (D : List Ls) : Prop where
  own : AS wq 46 6 (.slice p n c) n (flat D) [] wi
  len : D.length = n
  box : wi.heap[b]? = some (.cells #[.slice p n c] 37 (0, 0))
  base : wq.heap.size ≤ b
namespace Cx
variable {wq wi w' : World} {b : Nat} {p p' : Option Addr} {n c c' : Nat} {D : List Ls}
theorem start (w : World) : Cx w (w.alloc (.cells #[.slice none 0 0] 37)) w.heap.size none 0 0 [] :=
  ⟨(AS.start w 46 6).grow (below_alloc _ _), rfl, by show (w.heap.push _)[w.heap.size]? = _; simp, Nat.le_refl _⟩
theorem lt (h : Cx wq wi b p n c D) : b < wi.heap.size := (Array.getElem?_eq_some_iff.1 h.box).1
theorem grow (h : Cx wq wi b p n c D) (hb : Below wi.heap.size wi w') : Cx wq w' b p n c D := ⟨h.own.grow hb, h.len, (hb.block b h.lt).trans h.box, h.base⟩
theorem cell (h : Cx wq wi b p n c D) : wi.cell? ⟨b, 0, none⟩ = some (.slice p n c) := by simp [World.cell?, h.box]
theorem cold (h : Cx wq wi b p n c D) : wi.frozen? ⟨b, 0, none⟩ = false := by simp [World.frozen?, h.box]
theorem ne (h : Cx wq wi b p n c D) : (Value.slice p n c).ownBlock ≠ some b := by
  intro e
  rcases h.own.row.2 with ⟨h0, _⟩ | ⟨g, cap, cur, he, _, hg, _⟩
  · rw [h0] at e; cases e
  · rw [he] at e
    simp [Value.ownBlock] at e
    subst e
    rw [h.box] at hg
    cases hg
theorem put (h : Cx wq wi b p n c D) {l : Ls} (ho : AS wq 46 6 (.slice p' (n + 1) c') (n + 1) (flat D ++ (lc l).toList) [] w') (hg : (wi.alloc (.cells (lc l) 46)).grownBy w' (Value.slice p n c).ownBlock)
    (hat : (Value.slice p' (n + 1) c').ownBlock = (Value.slice p n c).ownBlock ∨ (Value.slice p' (n + 1) c').ownBlock = some (wi.heap.size + 1)) : Cx wq (w'.setCell ⟨b, 0, none⟩ (.slice p' (n + 1) c')) b p' (n + 1) c' (D ++ [l]) := by
  have hlt := h.lt
  have hne : (Value.slice p' (n + 1) c').ownBlock ≠ some b := by
    intro e
    rcases hat with q | q
    · exact h.ne (q.symm.trans e)
    · rw [q] at e
      cases e
      omega
  have hbox : w'.heap[b]? = some (.cells #[.slice p n c] 37 (0, 0)) := by
    rw [hg.block b (by simp; omega) (fun e => h.ne e.symm)]
    exact (below_alloc wi _).block b hlt |>.trans h.box
  have hrow := ho.row
  rw [show flat D ++ (lc l).toList = flat (D ++ [l]) by rw [flat_append]; simp [flat]] at hrow
  refine ⟨⟨ho.below.setCell h.base _, owns_same hrow (fun k hk => Below.heap_setCell _ _ _ _ (fun e => hne (by rw [hk, e]))), fun t ht => by cases ht⟩, by simp [h.len], ?_, h.base⟩
  show (w'.heap.modify b _)[b]? = _
  simp [Array.getElem?_modify, hbox]
end Cx

/-- the leases that are still to come, and those that have come -/
structure Come (T : Tb) (Lf : Pk → Option Value) (D : List Ls) : Prop where
  inD : ∀ l ∈ D, T.u (l.drive, l.ext) = some l ∧ Lf (l.drive, l.ext) = none
  all : ∀ k l, T.u k = some l → Lf k = some (lv l) ∨ l ∈ D
  left : ∀ k v, Lf k = some v → ∃ l, v = lv l ∧ T.u k = some l
  nd : D.Nodup
theorem lv_inj {a b : Ls} (h : lv a = lv b) : a = b := by
  obtain ⟨a1, a2, a3, a4, a5, a6⟩ := a
  obtain ⟨b1, b2, b3, b4, b5, b6⟩ := b
  simpa [lv] using h
theorem Come.start (T : Tb) : Come T (fun k => (T.u k).map lv) [] :=
  ⟨fun l h => (by cases h), fun k l h => .inl (by simp [h]), fun k v h => by
    cases hk : T.u k with
    | none => rw [hk] at h; cases h
    | some l => rw [hk] at h; exact ⟨l, by simpa using h.symm, rfl⟩, List.nodup_nil⟩
theorem Come.step {T : Tb} {Lf : Pk → Option Value} {D : List Ls} (h : Come T Lf D) (hk : ∀ d e l, T.u (d, e) = some l → l.drive = d ∧ l.ext = e) {k : Pk} {l : Ls} (hl : Lf k = some (lv l)) : Come T (upd Lf k none) (D ++ [l]) := by
  obtain ⟨l', e, hu⟩ := h.left k _ hl
  obtain rfl := lv_inj e
  obtain ⟨k1, k2⟩ := k
  obtain ⟨rfl, rfl⟩ := hk _ _ _ hu
  refine ⟨fun m hm => ?_, fun k m hm => ?_, fun k v hv => ?_, ?_⟩
  · rcases List.mem_append.1 hm with hm | hm
    · obtain ⟨h1, h2⟩ := h.inD m hm
      refine ⟨h1, ?_⟩
      unfold upd
      split
      · rfl
      · exact h2
    · rw [List.mem_singleton.1 hm]
      exact ⟨hu, upd_same _ _ _⟩
  · by_cases e : k = (l.drive, l.ext)
    · subst e
      rw [hu] at hm
      cases hm
      exact .inr (by simp)
    · rcases h.all k m hm with q | q
      · exact .inl (by rw [upd_other _ _ e]; exact q)
      · exact .inr (List.mem_append.2 (.inl q))
  · by_cases e : k = (l.drive, l.ext)
    · subst e; rw [upd_same] at hv; cases hv
    · rw [upd_other _ _ e] at hv
      exact h.left k v hv
  · rw [List.nodup_append]
    refine ⟨h.nd, by simp, fun a ha b hb => ?_⟩
    rw [List.mem_singleton.1 hb]
    rintro rfl
    have := (h.inD a ha).2
    rw [hl] at this
    cases this
section
variable {N : Nat} {T : Tb} {R : Rf}
theorem srt_nodup {L : List Ls} (h : Srt L) : L.Nodup := h.imp fun hab e => by subst e; exact before_not hab rfl rfl rfl
theorem Come.perm (h : Rel N T R) {Lf : Pk → Option Value} {D : List Ls} (hc : Come T Lf D) (h0 : ∀ k, Lf k = none) : D.Perm R.L := by
  refine (List.perm_ext_iff_of_nodup hc.nd (srt_nodup h.srt)).2 fun l => ?_
  constructor
  · intro hl
    exact ((h.uu _ _ l).1 (hc.inD l hl).1).1
  · intro hl
    rcases hc.all _ l ((h.uu _ _ l).2 ⟨hl, rfl, rfl⟩) with q | q
    · rw [h0] at q; cases q
    · exact q
theorem Come.len (h : Rel N T R) {Lf : Pk → Option Value} {D : List Ls} (hc : Come T Lf D) : D.length ≤ N := by
  have hp := ((List.perm_ext_iff_of_nodup hc.nd ((srt_nodup h.srt).filter (fun l => decide (l ∈ D)))).2 fun l => by
    rw [List.mem_filter]
    exact ⟨fun hl => ⟨((h.uu _ _ l).1 (hc.inD l hl).1).1, by simpa using hl⟩, fun hl => by simpa using hl.2⟩).length_eq
  rw [hp]
  exact Nat.le_trans (List.length_filter_le _ _) h.len
end
theorem swoL : Go.Sort.SWO beforeB := ⟨fun x => by
    cases h : beforeB x x with
    | false => rfl
    | true => exact (before_not h rfl rfl rfl).elim, fun _ _ _ => before_trans, fun x y z h1 h2 => by
    cases h : beforeB x z with
    | false => rfl
    | true =>
      have q1 : ¬ beforeB x y = true := by rw [h1]; simp
      have q2 : ¬ beforeB y z = true := by rw [h2]; simp
      rw [before_iff] at h q1 q2
      exfalso
      rcases Int.lt_trichotomy x.vol y.vol with v | v | v
      · exact q1 (.inl v)
      · rcases Int.lt_trichotomy y.vol z.vol with u | u | u
        · exact q2 (.inl u)
        · rcases h with h | ⟨_, h⟩
          · omega
          · rcases Int.lt_trichotomy x.frag y.frag with a | a | a
            · exact q1 (.inr ⟨v, .inl a⟩)
            · rcases Int.lt_trichotomy y.frag z.frag with b | b | b
              · exact q2 (.inr ⟨u, .inl b⟩)
              · rcases h with h | ⟨_, h3, h4⟩
                · omega
                · cases hy : y.mov with
                  | true => exact q1 (.inr ⟨v, .inr ⟨a, h3, hy⟩⟩)
                  | false => exact q2 (.inr ⟨u, .inr ⟨b, hy, h4⟩⟩)
              · rcases h with h | h <;> omega
            · rcases Int.lt_trichotomy y.frag z.frag with b | b | b
              · exact q2 (.inr ⟨u, .inl b⟩)
              · rcases h with h | h <;> omega
              · rcases h with h | h <;> omega
        · rcases h with h | h <;> omega
      · rcases Int.lt_trichotomy y.vol z.vol with u | u | u
        · exact q2 (.inl u)
        · rcases h with h | h <;> omega
        · rcases h with h | h <;> omega⟩
end Go.Proofs.Ytnhpjmjinchamaa

/- Leases: the sort in place, and the walk. -/
namespace Go.Proofs.Ytnhpjmjinchamaa
open Go Go.Shelf Go.RowKit Go.MapKept Go.Lib

theorem perm_of {α : Type} [Inhabited α] {d d' : Array α} (h : Go.Sort.PermIn 0 d.size d d') : d'.toList.Perm d.toList := by
  obtain ⟨h1, _, h3⟩ := h
  have e : ∀ a : Array α, a.extract 0 a.size = a := fun a => by simp
  rw [e] at h3
  rw [← h1, e] at h3
  exact h3
theorem pairs_of {α : Type} [Inhabited α] {lt : α → α → Bool} {d : Array α} {n : Nat} (hn : n = d.size) (h : Go.Sort.SortedIn lt 0 n d) : d.toList.Pairwise (fun x y => lt y x = false) := by
  subst hn
  rw [List.pairwise_iff_getElem]
  intro i j hi hj hij
  have := h i j (Nat.zero_le _) hij (by simpa using hj)
  simpa [hi, hj, getElem!_pos, show i < d.size by simpa using hi, show j < d.size by simpa using hj] using this
theorem siK9 (n : Nat) (h : 2 ≤ n) : swapperK n siE 25 = 9 := by
  have hp : siE.hasPointers = false := by kernel_rfl
  have hb : siE.bytes = 48 := by kernel_rfl
  unfold swapperK
  simp [hp, hb, show ¬ n = 0 by omega, show ¬ n = 1 by omega]
theorem swapper9 : Try.prog.funcs.findIdx? (·.name == "internal/reflectlite" ++ ".Swapper$" ++ toString 9) = some 73 := by kernel_rfl
theorem swapper2 : Try.prog.funcs.findIdx? (·.name == "internal/reflectlite" ++ ".Swapper$" ++ toString 2) = some 66 := by kernel_rfl
theorem sort_tiny (p : Option Addr) (n c : Nat) (h1 : n ≤ 1) (lf : Fn) (la lb : Array Value) (w : World) : Calls Try.prog 44 #[.iface 37 (.slice p n c), .func lf la lb] w fun e w' => e = .returned (.tuple #[]) ∧ Below w.heap.size w w' := by
  have key : ∃ f, Try.prog.funcs.findIdx? (·.name == "internal/reflectlite" ++ ".Swapper$" ++ toString (swapperK n siE 25)) = some f := by
    rcases (by omega : n = 0 ∨ n = 1) with rfl | rfl
    · exact ⟨65, by rw [show swapperK 0 siE 25 = 1 by simp [swapperK]]; exact swapper_none⟩
    · exact ⟨66, by rw [show swapperK 1 siE 25 = 2 by simp [swapperK]]; exact swapper2⟩
  obtain ⟨f, hf⟩ := key
  refine (Any.sort_Slice_tiny slice6 37 46 siT siE (by kernel_rfl) (by kernel_rfl) (by kernel_rfl) (by kernel_rfl) 25 (fun _ => by kernel_rfl) p n c h1 f hf lf la lb w).mono ?_
  rintro e w' ⟨rfl, os, rfl⟩
  exact ⟨rfl, rfl, rfl, rfl, by simp [Sort.grow], fun k hk => by simp [Sort.grow, Array.getElem?_append, hk]⟩

/-- the row's cells, flat -/
theorem flatK_get (D : List Ls) (t : Nat) (ht : t < D.length * 6) : (flat D)[t]? = some (Go.Sort.flatK encL 6 D.toArray)[t]! := by
  rw [Go.Sort.get_flatK encL 6 D.toArray t (by simpa using ht)]
  have hq : t / 6 < D.length := by omega
  have e : D.toArray[t / 6]! = D[t / 6] := by simp [hq]
  rw [e]
  have h2 := flat_get D (t / 6) (t % 6) D[t / 6] ((lc D[t / 6])[t % 6]'(by show t % 6 < 6; omega)) (by simp [hq]) (by simp [show t % 6 < (lc D[t / 6]).size from (by show t % 6 < 6; omega)])
  rw [show t / 6 * 6 + t % 6 = t by omega] at h2
  rw [h2]
  congr 1
  show (lc D[t / 6])[t % 6]'(by show t % 6 < 6; omega) = (lc D[t / 6]).toList[t % 6]!
  rw [getElem!_pos _ _ (by show t % 6 < 6; omega)]
  rfl
theorem RdL.of_holds {w : World} {g c : Nat} {D : List Ls} (hH : Go.Sort.HoldsK encL 6 w g 0 D.toArray) (hg : g < w.heap.size) (hc : D.length ≤ c ∧ c ≤ 9223372036854775807) : RdL w (.slice (some ⟨g, 0, none⟩) D.length c) D := by
  refine ⟨_, c, rfl, hc.1, hc.2, .inr ⟨g, 0, rfl, hg, fun j u hu => ?_⟩⟩
  have hj : j < D.length * 6 := by
    have := (List.getElem?_eq_some_iff.1 hu).1
    rwa [flat_len] at this
  rw [flatK_get D j hj] at hu
  cases hu
  exact (hH j (by simpa using hj)).1
theorem Cx.holds {wq wi : World} {b g n c : Nat} {D : List Ls} (h : Cx wq wi b (some ⟨g, 0, none⟩) n c D) : Go.Sort.HoldsK encL 6 wi g 0 D.toArray := by
  intro j hj
  have hj' : j < D.length * 6 := by simpa using hj
  refine ⟨?_, ?_⟩
  · have := h.own.row.cells rfl j _ (flatK_get D j hj')
    rw [add_off, Nat.zero_add] at this
    rw [Nat.zero_add]
    exact this
  · rcases h.own.row.2 with ⟨h0, _⟩ | ⟨g', cap, cur, he, _, hg, _⟩
    · cases h0
    · cases he
      simp [World.frozen?, hg]
theorem Cx.caps {wq wi : World} {b n c : Nat} {p : Option Addr} {D : List Ls} (h : Cx wq wi b p n c D) (hn : n ≤ 9000) : n ≤ c ∧ c ≤ 9223372036854775807 ∧ (n ≠ 0 → ∃ g, p = some ⟨g, 0, none⟩ ∧ g < wi.heap.size ∧ wq.heap.size ≤ g) := by
  rcases h.own.row.2 with ⟨h0, h1⟩ | ⟨g, cap, cur, he, hB, hg, hnc, hcm, _⟩
  · cases h0
    exact ⟨by omega, by omega, fun q => absurd h1 q⟩
  · cases he
    refine ⟨hnc, ?_, fun _ => ⟨g, rfl, (Array.getElem?_eq_some_iff.1 hg).1, hB⟩⟩
    unfold maxLen at hcm
    omega

set_option maxHeartbeats 1000000 in
theorem sort_cx {wq wi : World} {b n c : Nat} {p : Option Addr} {D : List Ls} (h : Cx wq wi b p n c D) (hn : n ≤ 9000) :
    Calls Try.prog 44 #[.iface 37 (.slice p n c), .func (.func 45) #[] #[.pointer (some ⟨b, 0, none⟩)]] wi fun e w' => e = .returned (.tuple #[]) ∧ w'.cell? ⟨b, 0, none⟩ = some (.slice p n c) ∧ Below wq.heap.size wq w' ∧ ∃ L : List Ls, L.length = n ∧ RdL w' (.slice p n c) L ∧ L.Perm D ∧ L.Pairwise (fun x y => beforeB y x = false) := by
  obtain ⟨hc1, hc2, hg⟩ := h.caps hn
  have hlen := h.len
  by_cases h2 : 2 ≤ n
  · obtain ⟨g, rfl, hgl, hgq⟩ := hg (by omega)
    have hne : b ≠ g := fun e => h.ne (by rw [e]; rfl)
    have hds : D.toArray.size = n := by simpa using hlen
    have hH := h.holds
    have hless : LessX Try.prog 45 #[.pointer (some ⟨b, 0, none⟩)] encL 6 beforeB g 0 D.toArray.size wi := by
      intro d w hs ho hat hh i j hi hj
      have hbl := h.lt
      have hcell : w.cell? ⟨b, 0, none⟩ = some (.slice (some ⟨g, 0, none⟩) n c) := (World.cell?_of_block (a := ⟨b, 0, none⟩) (ho.block b hbl (by simpa using hne))).trans h.cell
      exact closure_any b g n c i j d w (hs.trans hds) ⟨hc1, hc2⟩ (Nat.lt_of_lt_of_le hbl ho.size) hcell (Nat.lt_of_lt_of_le hgl ho.size) hh (by omega) (by omega)
    have hS := sort_slice_x slice6 37 46 siT siE (by kernel_rfl) (by kernel_rfl) (by kernel_rfl) (by kernel_rfl) 25 (fun _ => by kernel_rfl) encL 6 encL_len (by kernel_rfl) (fun _ => by kernel_rfl) encL_one beforeB swoL 45 #[.pointer (some ⟨b, 0, none⟩)]
      (enters_of Try.func45 (by kernel_rfl) rfl) g 0 c D.toArray (by omega) (by omega) 73 (by rw [hds, siK9 _ h2]; exact swapper9) false
      (fun args W => run_callFunc_extern Try.func73 (by kernel_rfl) (by kernel_rfl) (by kernel_rfl) (e := Extern.ReflectliteSwapper.swap false) (by kernel_rfl) args W) wi hless hH hgl
    rw [hds] at hS
    refine hS.mono ?_
    rintro e w' ⟨he, d', hP, hSo, ho, hat, hh⟩
    have hsz : d'.size = n := by have := hP.1; omega
    have hP' : Go.Sort.PermIn 0 D.toArray.size D.toArray d' := by rw [hds]; exact hP
    refine ⟨he, (World.cell?_of_block (a := ⟨b, 0, none⟩) (ho.block b h.lt (by simpa using hne))).trans h.cell, h.own.below.trans (ho.below (by simpa using hgq) h.own.below.size), d'.toList, by simpa using hsz, ?_, by simpa using perm_of hP', pairs_of hsz.symm hSo⟩
    have := RdL.of_holds (D := d'.toList) (c := c) (by simpa using hh) (Nat.lt_of_lt_of_le hgl ho.size) (by simp [hsz]; omega)
    rw [show d'.toList.length = n by simpa using hsz] at this
    exact this
  · refine (sort_tiny p n c (by omega) _ _ _ wi).mono ?_
    rintro e w' ⟨he, hb⟩
    refine ⟨he, (hb.cell (p := ⟨b, 0, none⟩) h.lt).trans h.cell, h.own.below.trans (hb.mono h.own.below.size), D, hlen, ?_, List.Perm.refl _, ?_⟩
    · by_cases h0 : n = 0
      · subst h0
        have : D = [] := List.eq_nil_of_length_eq_zero hlen
        subst this
        exact ⟨p, c, rfl, by simp, hc2, .inl rfl⟩
      · obtain ⟨g, rfl, hgl, hgq⟩ := hg h0
        have := (RdL.of_holds (D := D) (c := c) h.holds hgl (by omega)).keep hb
        rw [hlen] at this
        exact this
    · match D, hlen with
      | [], _ => exact List.Pairwise.nil
      | [x], _ => exact List.pairwise_singleton _ _
      | _ :: _ :: _, hlen => simp at hlen; omega
end Go.Proofs.Ytnhpjmjinchamaa

/- Leases: the walk. -/
namespace Go.Proofs.Ytnhpjmjinchamaa
open Go Go.RowKit Go.MapKept

theorem row_cells {w : World} {B n : Nat} {v : Value} {xs : List Value} (h : w.ownsRow B 46 6 v n xs) {g : Nat} (hg : v.ownBlock = some g) : ∃ c t, w.heap[g]? = some (.cells c t (0, 0)) := by
  rcases h.2 with ⟨h0, _⟩ | ⟨g', cap, cur, he, _, hg', _⟩
  · rw [h0] at hg; cases hg
  · rw [he] at hg
    simp [Value.ownBlock] at hg
    subst hg
    exact ⟨_, _, hg'⟩
section
variable {w w' : World} {b r cnt : Nat} {F Lf : Pk → Option Value}
theorem RgV.not_cells (h : RgV w b r F Lf cnt) {g : Nat} {c : Array Value} {t : TypeId} {f : Nat × Nat} (hg : w.heap[g]? = some (.cells c t f)) : b ≠ g ∧ r ≠ g := by
  obtain ⟨es, clock, since, seen, c0, h1, h2, h3, h4, h5, _⟩ := h
  refine ⟨fun e => ?_, fun e => ?_⟩
  · rw [e, hg] at h1; cases h1
  · rw [e, hg] at h5; cases h5
theorem RgV.same (h : RgV w b r F Lf cnt) (hb : w'.heap[b]? = w.heap[b]?) (hr : w'.heap[r]? = w.heap[r]?) : RgV w' b r F Lf cnt := by
  obtain ⟨es, clock, since, seen, c0, h1, h2, h3, h4, h5, h6⟩ := h
  exact ⟨es, clock, since, seen, c0, hb.trans h1, h2, h3, h4, hr.trans h5, h6⟩
theorem RgV.app {B n : Nat} {v : Value} {xs : List Value} (h : RgV w b r F Lf cnt) (ho : w.ownsRow B 46 6 v n xs) (hg : w.grownBy w' v.ownBlock) : RgV w' b r F Lf cnt := by
  have hl := h.lt
  have hne : ∀ k, (k = b ∨ k = r) → some k ≠ v.ownBlock := fun k hk e => by
    obtain ⟨c, t, hc⟩ := row_cells ho e.symm
    obtain ⟨q1, q2⟩ := h.not_cells hc
    rcases hk with rfl | rfl
    · exact q1 rfl
    · exact q2 rfl
  exact h.same (hg.block b hl.1 (hne b (.inl rfl))) (hg.block r hl.2 (hne r (.inr rfl)))
theorem RgV.left (h : RgV w b r F Lf cnt) : w.rangeLeft b r = cnt := by
  obtain ⟨es, clock, since, seen, c0, h1, h2, h3, h4, h5, h6, h7, _⟩ := h
  simp only [World.rangeLeft, h1, h5]
  exact h7
end
/-- the loop's state -/
structure Vx (w0 : World) (i : Ids) (T : Tb) (b r : Nat) (p : Option Addr) (n c cnt : Nat) (Lf : Pk → Option Value) (D : List Ls) (w : World) : Prop where
  rg : RgV w i.u r (fun k => (T.u k).map lv) Lf cnt
  cx : Cx w0 w b p n c D
  come : Come T Lf D
  new : w0.heap.size ≤ r
namespace Vx
variable {w0 w w' wn : World} {i : Ids} {T : Tb} {b r n c cnt cnt' : Nat} {p p' : Option Addr} {c' : Nat} {Lf : Pk → Option Value} {D : List Ls}
/-- behind the step of the range -/
theorem next (h : Vx w0 i T b r p n c cnt Lf D w) (hu : ∀ d e l, T.u (d, e) = some l → l.drive = d ∧ l.ext = e) {k : Pk} {l : Ls} (hl : Lf k = some (lv l)) (hr : RgV wn i.u r (fun k => (T.u k).map lv) (upd Lf k none) cnt') (ho : Only [r] w wn) :
    Cx w0 wn b p n c D ∧ Come T (upd Lf k none) (D ++ [l]) := by
  have hb : r ≠ b := (h.rg.not_cells h.cx.box).2
  have hbox := (ho.block b h.cx.lt (by simp [hb.symm])).trans h.cx.box
  refine ⟨⟨⟨h.cx.own.below.trans (ho.below (by simpa using h.new) h.cx.own.below.size), owns_same h.cx.own.row (fun k hk => ?_), fun t ht => by cases ht⟩, h.cx.len, hbox, h.cx.base⟩, h.come.step hu hl⟩
  obtain ⟨cc, tt, hc⟩ := row_cells h.cx.own.row hk
  exact ho.block k (Array.getElem?_eq_some_iff.1 hc).1 (by simpa using (h.rg.not_cells hc).2.symm)
end Vx
/-- what the box holds behind an append -/
theorem box_app {wq wi w' : World} {b n c : Nat} {p : Option Addr} {D : List Ls} {l : Ls} (h : Cx wq wi b p n c D) (hg : (wi.alloc (.cells (lc l) 46)).grownBy w' (Value.slice p n c).ownBlock) : w'.heap[b]? = some (.cells #[.slice p n c] 37 (0, 0)) := by
  rw [hg.block b (by simp; have := h.lt; omega) (fun e => h.ne e.symm)]
  exact (below_alloc wi _).block b h.lt |>.trans h.box
section
variable {ops : Array Oper} {rest : List Oper} {o : Oper} {a : Act} {Q : Exit → Act → World → Prop} {w0 W : World}
theorem wpList_one {v : Value} {n b : Nat} {xs : List Value} {l : Ls} (s y : Operand) (hg : o.guard = none)
    (ho : o.op = .call { callee := .builtin .append, args := #[s, y], argTypes := #[37, 37] }) (hs : a.eval s = v) (hx : a.eval y = .slice (some ⟨b, 0, none⟩) 1 1) (hb : b = W.heap.size) (h : AS w0 46 6 v n xs [] W) (hn : n ≤ 9000)
    (hK : ∀ p c w', Hid (AS w0 46 6 (.slice p (n + 1) c) (n + 1) (xs ++ (lc l).toList) [] w') → Hid ((W.alloc (.cells (lc l) 46)).grownBy w' v.ownBlock) → Hid ((Value.slice p (n + 1) c).ownBlock = v.ownBlock ∨ (Value.slice p (n + 1) c).ownBlock = some (W.heap.size + 1)) →
      wpList Try.prog ops Q rest (a.put o.dst (.slice p (n + 1) c)) w') :
    wpList Try.prog ops Q (o :: rest) a (W.alloc (.cells (lc l) 46)) := by
  subst hb
  refine wpList_plain hg fun K' hK' => ?_
  obtain ⟨v', w', hr, h2, h3, h4⟩ := append_one h l hn o.type
  obtain ⟨p, cap, rfl⟩ := owns_val h2.row
  unfold Oper.wp
  simp [execOp, ho, resolve, invoke, builtin, hs, hx, hr, Result.andThen]
  exact hK' _ _ (hK _ _ _ h2 h3 h4)
end

set_option maxHeartbeats 4000000 in
set_option maxRecDepth 20000 in
theorem leases_as {w : World} {i : Ids} {T : Tb} {N : Nat} {R : Rf} (h : TbAt w i T) (hr : Rel N T R) (hN : N ≤ 900) :
    Calls Try.prog 26 #[i.ptr] w fun e w' => Below w.heap.size w w' ∧ ∃ p c, e = .returned (.slice p R.L.length c) ∧ RdL w' (.slice p R.L.length c) R.L := by
  have hB := below_alloc w (.cells #[.slice none 0 0] 37)
  have hT := h.below hB
  obtain ⟨c0, c1, c2, c3, c4, c5, -⟩ := hT.box.lay6
  have HMU := Lib.hid hT.mu
  have HC := Lib.hid (Cx.start w)
  have HBL := Lib.hid hB
  have HREL := Lib.hid hr
  have HU := Lib.hid (show ∀ d e l, T.u (d, e) = some l → l.drive = d ∧ l.ext = e from fun d e l q => ((hr.uu d e l).1 q).2)
  clear h hT hB hr
  go_enter Try.func26, Try.ntmps26
  go_wp2_with (first
    | (go_at_call 36; (with_reducible refine (view_any _ _).mono ?_); rintro e w1 ⟨rfl, rfl⟩)
    | (at_range; refine wpList_range_v rfl _ _ _ _ rfl map66 rfl HMU.out ?_; intro w3 cnt0 HR0 HB3))
  obtain ⟨r, hrr⟩ : ∃ r, (w.alloc (.cells #[.slice none 0 0] 37)).heap.size = r := ⟨_, rfl⟩
  rw [hrr] at HR0 ⊢
  obtain ⟨bo, hbo⟩ : ∃ b, w.heap.size = b := ⟨_, rfl⟩
  have HV0 := Lib.hid (show Vx w i T w.heap.size r none 0 0 cnt0 (fun k => (T.u k).map lv) [] w3 from ⟨HR0.out, HC.out.grow HB3.out, Come.start T, by rw [← hrr]; simp⟩)
  have HBO := Lib.hid hbo
  rw [hbo] at HV0 ⊢
  clear HR0 HB3 HC HMU HBL c0 c1 c2 c3 c4 c5 hrr hbo
  go_frame
  go_loopw [5] (fun _ wr => ∃ p n c cnt Lf D, Hid (Vx w i T bo r p n c cnt Lf D wr)) (fun _ wr => wr.rangeLeft i.u r)
  case atStart => exact ⟨_, _, _, _, _, _, HV0⟩
  case round =>
    rename World => wr
    clear HV0
    obtain ⟨p, n, c, cnt, Lf, D, HV⟩ := hrel
    go_wp2_with (first
      | (at_next; refine wpList_next_v rfl _ rfl rfl HV.out.rg ?_ ?_))
    · intro hc0 hL0
      have hp := HV.out.come.perm HREL.out (fun k => hL0 k.1 k.2)
      have HP := Lib.hid hp
      have hn9 : n ≤ 9000 := by rw [← HV.out.cx.len]; have := HV.out.come.len HREL.out; omega
      have HS := Lib.hid (sort_cx HV.out.cx hn9)
      have k0 := HV.out.cx.cell
      clear hc0 hL0 hp
      go_wp2_with (first
        | (go_at_call 44; (with_reducible refine HS.out.mono ?_); rintro e w4 ⟨rfl, k1, hb, L, hl1, hl2, hl3, hl4⟩; have HB := Lib.hid hb; have HL2 := Lib.hid hl2; have HL3 := Lib.hid hl3; have HL4 := Lib.hid hl4; clear hb hl2 hl3 hl4 k0))
      go_ret
      have e : L = R.L := List.Perm.eq_of_pairwise (le := fun x y => beforeB y x = false) (fun x y hx hy q1 q2 => by
        by_cases e : x.vol = y.vol ∧ x.frag = y.frag ∧ x.mov = y.mov
        · have hx' := (HL3.out.trans HP.out).mem_iff.1 hx
          have hy' := hy
          cases hm : y.mov with
          | true =>
            have h1 := (HREL.out.mm _ _ x).2 ⟨hx', rfl, rfl, by rw [e.2.2, hm]⟩
            have h2 := (HREL.out.mm _ _ y).2 ⟨hy', rfl, rfl, hm⟩
            rw [e.1, e.2.1, h2] at h1
            exact (Option.some.inj h1).symm
          | false =>
            have h1 := (HREL.out.hh _ _ x).2 ⟨hx', rfl, rfl, by rw [e.2.2, hm]⟩
            have h2 := (HREL.out.hh _ _ y).2 ⟨hy', rfl, rfl, hm⟩
            rw [e.1, e.2.1, h2] at h1
            exact (Option.some.inj h1).symm
        · have := before_total (a := x) (b := y) e q2
          rw [q1] at this
          cases this) HL4.out (HREL.out.srt.imp fun {x y} hxy => by
        cases hq : beforeB y x with
        | false => rfl
        | true => exact (before_not (before_trans hxy hq) rfl rfl rfl).elim) (HL3.out.trans HP.out)
      subst e
      exact ⟨by rw [← HBO.out] at *; exact HB.out, p, c, by rw [hl1]; rfl, by rw [hl1]; exact HL2.out⟩
    · intro ka kb v wn cnt2 hLk HRn hlt HOn hen
      obtain ⟨l, rfl, hul⟩ := HV.out.come.left (ka, kb) v hLk
      obtain ⟨hcx, hcome⟩ := HV.out.next HU.out hLk HRn.out HOn.out
      have HC := Lib.hid hcx
      have HM := Lib.hid hcome
      have hn9 : n ≤ 9000 := by rw [← hcx.len]; have := HV.out.come.len HREL.out; omega
      have hcx1 := hcx.grow (below_alloc wn (.cells (lc l) 46))
      have HC1 := Lib.hid hcx1
      have k0 := hcx1.cell
      have HRn1 := Lib.hid (HRn.out.below (below_alloc wn (.cells (lc l) 46)))
      clear hcx hcome hcx1 hul hLk
      go_wp2_with (first
        | (at_builtin; refine wpList_one (l := l) _ _ rfl rfl rfl rfl (by simp) HC1.out.own hn9 ?_; intro p3 c3 w3 HO3 HG3 HA3; have hbx := box_app HC1.out HG3.out; have k1 : w3.cell? ⟨bo, 0, none⟩ = some (.slice p n c) := (by simp [World.cell?, hbx]); have k2 : w3.frozen? ⟨bo, 0, none⟩ = false := (by simp [World.frozen?, hbx]); have HV2 := Lib.hid (HC1.out.put HO3.out HG3.out HA3.out); have HR3 := Lib.hid ((HRn1.out.below (below_alloc _ (.cells (lc l) 46))).app (HC1.out.own.grow (below_alloc _ (.cells (lc l) 46))).row HG3.out); have hbne := Lib.hid (HR3.out.not_cells hbx); clear hbx HO3 HG3 HA3))
      have HV3 := Lib.hid (show Vx w i T bo r p3 (n + 1) c3 cnt2 (upd Lf (ka, kb) none) (D ++ [l]) (w3.setCell ⟨bo, 0, none⟩ (.slice p3 (n + 1) c3)) from
        ⟨HR3.out.same (Below.heap_setCell _ _ _ _ hbne.out.1) (Below.heap_setCell _ _ _ _ hbne.out.2), HV2.out, HM.out, HV.out.new⟩)
      go_roundw
      case rel => exact ⟨_, _, _, _, _, _, HV3⟩
      case measure => rw [HV3.out.rg.left, HV.out.rg.left]; exact hlt
end Go.Proofs.Ytnhpjmjinchamaa
