/- The walk of LeasePlays. -/
import Derived.Test.YtnhpjmjinchamaaLk
import Derived.Test.YtnhpjmjinchamaaFr
set_option linter.unusedVariables false
set_option linter.unusedSimpArgs false
set_option linter.unnecessarySimpa false
namespace Go.Proofs.Ytnhpjmjinchamaa
open Go Go.RowKit Go.MapKept

/-- the loop's state -/
structure Py (w : World) (B : Nat) (i : Ids) (rb : Nat) (N : Nat) (T : Tb) (R : Rf) (wr : World) : Prop where
  both : Both B i rb T R wr
  rel : Rel N T R
  below : Below w.heap.size w wr
  own : ∀ s ∈ rb :: i.all, w.heap.size ≤ s
section
variable {w : World} {B : Nat} {i : Ids} {rb N : Nat} {T : Tb} {R : Rf} {wr w' : World}
theorem Py.call (h : Py w B i rb N T R wr) (hb : Below wr.heap.size wr w') : Py w B i rb N T R w' :=
  ⟨h.both.call hb, h.rel, h.below.trans (hb.mono h.below.size), h.own⟩
theorem Py.lt (h : Py w B i rb N T R wr) : ∀ s ∈ rb :: i.all, s < wr.heap.size := fun s hs => by
  rcases List.mem_cons.1 hs with rfl | hs
  · exact h.both.rf.lt
  · exact h.both.tb.lt s hs
/-- .. and a block of its own -/
structure Pb (w : World) (B : Nat) (i : Ids) (rb : Nat) (N : Nat) (T : Tb) (R : Rf) (bx : Nat) (c : Array Value) (wr : World) : Prop where
  st : Py w B i rb N T R wr
  box : Holds wr bx c
  base : w.heap.size ≤ bx
  old : ∀ s ∈ rb :: i.all, s < bx
theorem Py.push (h : Py w B i rb N T R wr) (c : Array Value) (t : TypeId) : Pb w B i rb N T R wr.heap.size c (wr.alloc (.cells c t)) :=
  ⟨h.call (below_alloc _ _), Holds.new _ _ _, h.below.size, h.lt⟩
theorem Pb.call {bx : Nat} {c : Array Value} (h : Pb w B i rb N T R bx c wr) (hb : Below wr.heap.size wr w') : Pb w B i rb N T R bx c w' :=
  ⟨h.st.call hb, h.box.keep hb, h.base, h.old⟩
theorem Pb.step {bx : Nat} {c : Array Value} {e : Ending} {o : Opc} (h : Pb w B i rb N T R bx c wr) (hd : DoPost (N + 1) B i rb (stepT T o) wr e w') : e = .returned (.bool true) ∧ ∃ R', Pb w B i rb (N + 1) (stepT T o) R' bx c w' := by
  obtain ⟨h1, R', h2, h3, h4⟩ := hd
  exact ⟨h1, R', ⟨h3, h2, h.st.below.trans (h4.below h.st.own h.st.below.size), h.st.own⟩, h.box.only h4 (fun hm => by have := h.old bx hm; omega), h.base, h.old⟩
/-- five cells laid anew in the box -/
theorem Py.store5 {w2 : World} {c0 c1 c2 c3 c4 : Value} (h : Py w B i rb N T R wr) (hb : Below wr.heap.size wr w2) (hx : Holds w2 wr.heap.size #[c0, c1, c2, c3, c4]) (a0 a1 a2 a3 a4 : Value) :
    Pb w B i rb N T R wr.heap.size #[a0, a1, a2, a3, a4] (((((w2.setCell ⟨wr.heap.size, 0, none⟩ a0).setCell ⟨wr.heap.size, 1, none⟩ a1).setCell ⟨wr.heap.size, 2, none⟩ a2).setCell ⟨wr.heap.size, 3, none⟩ a3).setCell ⟨wr.heap.size, 4, none⟩ a4) := by
  have ho := ((((Only.of_below [] hb).setCell (.inr (Nat.le_refl _)) 0 a0).setCell (.inr (Nat.le_refl _)) 1 a1).setCell (.inr (Nat.le_refl _)) 2 a2).setCell (.inr (Nat.le_refl _)) 3 a3 |>.setCell (.inr (Nat.le_refl _)) 4 a4
  have hh := ((((hx.set 0 a0).set 1 a1).set 2 a2).set 3 a3).set 4 a4
  exact ⟨h.call (ho.below (by simp) (Nat.le_refl _)), by simpa using hh, h.below.size, h.lt⟩
end

set_option maxRecDepth 20000 in
set_option maxHeartbeats 8000000 in
theorem plays_law (a : Option Addr) (n cap : Nat) (f : Nat → Int × Int × Int × Int × Int) (sm : Bool) (w : World) (hl : Seq w (.slice a n cap) 5 n (fun i => [.int .i64 (f i).1, .int .i64 (f i).2.1, .int .i64 (f i).2.2.1, .int .i64 (f i).2.2.2.1, .int .i64 (f i).2.2.2.2]))
    (hf : ∀ i, In64 (f i).1 ∧ In64 (f i).2.1 ∧ In64 (f i).2.2.1 ∧ In64 (f i).2.2.2.1 ∧ In64 (f i).2.2.2.2) :
    Calls Try.prog 7 #[.slice a n cap, .bool sm] w fun e w' => e = .returned (.bool true) ∧ Below w.heap.size w w' := by
  obtain ⟨a', cap', hv, hcap, hn63, hcell⟩ := hl
  cases hv
  have HC := Lib.hid hcell
  have HF := Lib.hid hf
  clear hcell hcap hf
  by_cases h80 : 80 < n
  · have qa : decide ((80 : Int) < (n : Int)) = true := by simp; omega
    go_enter Try.func7, Try.ntmps7
    go_wp2_with (first
      | (go_at_call 10; (with_reducible refine (awake_any _).mono ?_); rintro e w1 ⟨rfl, hb⟩; have HB := Lib.hid hb; clear hb))
    go_ret
    exact ⟨rfl, HB.out⟩
  have qa : decide ((80 : Int) < (n : Int)) = false := by simp; omega
  go_enter Try.func7, Try.ntmps7
  go_wp2_with (first
    | (go_at_call 11; (with_reducible refine (new_any _).mono ?_); rintro e w1 ⟨i, rfl, hs, ht, hb⟩; have HL := Lib.hid (Py.mk (w := w) (both_start ht) Rel.start (hb.alloc hb.size _) (fun s h => (List.mem_cons.1 h).elim (fun e => e ▸ hb.size) (hs s))); clear hs ht hb))
  go_loopw [7] (fun kk wr => ∃ (k : Nat) (T : Tb) (R : Rf), kk = .int .i64 k ∧ k ≤ n ∧ Hid (Py w w1.heap.size i w1.heap.size k T R wr)) (fun kk _ => n - (intOf kk).toNat)
  case atStart => exact ⟨0, noT, noR, rfl, by omega, HL⟩
  case round =>
    rename World => wr
    obtain ⟨k, T, R, rfl, hk, HV⟩ := hrel
    clear HL
    by_cases hkn : k < n
    · obtain ⟨b, off, rfl, hb, hcc⟩ := HC.out k hkn
      have d0 : wr.cell? ⟨b, off + k * 5, none⟩ = some (.int .i64 (f k).1) := (HV.out.below.cell (p := ⟨b, off + k * 5, none⟩) hb).trans (hcc 0 _ rfl)
      have d1 : wr.cell? ⟨b, off + k * 5 + 1, none⟩ = some (.int .i64 (f k).2.1) := (HV.out.below.cell (p := ⟨b, off + k * 5 + 1, none⟩) hb).trans (hcc 1 _ rfl)
      have d2 : wr.cell? ⟨b, off + k * 5 + 2, none⟩ = some (.int .i64 (f k).2.2.1) := (HV.out.below.cell (p := ⟨b, off + k * 5 + 2, none⟩) hb).trans (hcc 2 _ rfl)
      have d3 : wr.cell? ⟨b, off + k * 5 + 3, none⟩ = some (.int .i64 (f k).2.2.2.1) := (HV.out.below.cell (p := ⟨b, off + k * 5 + 3, none⟩) hb).trans (hcc 3 _ rfl)
      have d4 : wr.cell? ⟨b, off + k * 5 + 4, none⟩ = some (.int .i64 (f k).2.2.2.2) := (HV.out.below.cell (p := ⟨b, off + k * 5 + 4, none⟩) hb).trans (hcc 4 _ rfl)
      have HO := Lib.hid (show OkOp (opOf f k) from ⟨(HF.out k).2.1, (HF.out k).2.2.1, (HF.out k).2.2.2.1, (HF.out k).2.2.2.2⟩)
      have hk8 : k ≤ 800 := by omega
      obtain ⟨o, ho⟩ : ∃ o, opOf f k = o := ⟨_, rfl⟩
      obtain ⟨kd, ov, of, od, ox⟩ := o
      have g0 : (f k).1 = kd := congrArg Opc.kind ho
      have g1 : (f k).2.1 = ov := congrArg Opc.vol ho
      have g2 : (f k).2.2.1 = of := congrArg Opc.frag ho
      have g3 : (f k).2.2.2.1 = od := congrArg Opc.drive ho
      have g4 : (f k).2.2.2.2 = ox := congrArg Opc.ext ho
      rw [g0] at d0
      rw [g1] at d1
      rw [g2] at d2
      rw [g3] at d3
      rw [g4] at d4
      rw [ho] at HO
      clear hcc ho g0 g1 g2 g3 g4
      have HW0 := Lib.hid (HV.out.push (oc ⟨kd, ov, of, od, ox⟩) 42)
      have hs : (sm = true ∧ kd < 5) ∨ (sm = false) ∨ (sm = true ∧ ¬ kd < 5) := by cases sm <;> simp; omega
      rcases hs with ⟨rfl, h5⟩ | rfl | ⟨rfl, h5⟩
      · obtain ⟨o2, ho2⟩ : ∃ o, nearO ⟨kd, ov, of, od, ox⟩ = o := ⟨_, rfl⟩
        have HN := fun w => Lib.hid (ho2 ▸ near_any ⟨kd, ov, of, od, ox⟩ HO.out w)
        clear ho2
        obtain ⟨pk, pv, pf, pd, px⟩ := o2
        go_wp2_with (first
          | (go_at_call 16; (with_reducible refine (HN _).out.mono ?_); rintro e w2 ⟨rfl, hb2⟩; have HW2 := Lib.hid (HW0.out.call hb2); have HW1 := Lib.hid (HV.out.store5 ((below_alloc _ (.cells (oc ⟨kd, ov, of, od, ox⟩) 42)).trans (hb2.mono (by simp))) HW2.out.box (.int .i64 pk) (.int .i64 pv) (.int .i64 pf) (.int .i64 pd) (.int .i64 px)); obtain ⟨c0, c1, c2, c3, c4, z0, z1, z2, z3, z4, cz⟩ := HW2.out.box.lay5; clear hb2)
          | (go_at_call 15; (with_reducible refine (do_any HW1.out.st.both HW1.out.st.rel hk8 ⟨pk, pv, pf, pd, px⟩).mono ?_); intro e w3 ho; obtain ⟨rfl, R', HW3⟩ := HW1.out.step ho; have HW3 := Lib.hid HW3; obtain ⟨c0, c1, c2, c3, c4, -, -, -, -, -, cz⟩ := HW3.out.box.lay5; clear ho)
          | (go_at_call 27; (with_reducible refine (alike_as HW3.out.st.both HW3.out.st.rel (by omega) ⟨pk, pv, pf, pd, px⟩).mono ?_); rintro e w4 ⟨rfl, hb⟩; have HW4 := Lib.hid (HW3.out.call hb); clear hb))
        go_roundw
        case rel => exact ⟨k + 1, _, R', by go_num, by omega, Lib.hid HW4.out.st⟩
        case measure => simp [intOf]; omega
      all_goals
        go_wp2_with (first
          | (go_at_call 15; (with_reducible refine (do_any HW0.out.st.both HW0.out.st.rel hk8 ⟨kd, ov, of, od, ox⟩).mono ?_); intro e w3 ho; obtain ⟨rfl, R', HW3⟩ := HW0.out.step ho; have HW3 := Lib.hid HW3; obtain ⟨c0, c1, c2, c3, c4, -, -, -, -, -, cz⟩ := HW3.out.box.lay5; clear ho)
          | (go_at_call 27; (with_reducible refine (alike_as HW3.out.st.both HW3.out.st.rel (by omega) ⟨kd, ov, of, od, ox⟩).mono ?_); rintro e w4 ⟨rfl, hb⟩; have HW4 := Lib.hid (HW3.out.call hb); clear hb))
        go_roundw
        case rel => exact ⟨k + 1, _, R', by go_num, by omega, Lib.hid HW4.out.st⟩
        case measure => simp [intOf]; omega
    · obtain rfl : k = n := by omega
      go_wp2_with (first
        | (go_at_call 10; (with_reducible refine (awake_any _).mono ?_); rintro e w5 ⟨rfl, hb⟩; have HB := Lib.hid (HV.out.call hb).below; clear hb))
      go_ret
      exact ⟨rfl, HB.out⟩
end Go.Proofs.Ytnhpjmjinchamaa
