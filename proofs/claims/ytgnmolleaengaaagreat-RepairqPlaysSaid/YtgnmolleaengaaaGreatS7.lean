/- The walk of RepairqOrders. -/
import Derived.Test.YtgnmolleaengaaaGreatS6
import Derived.Test.YtgnmolleaengaaaGreatLz
import Derived.Test.YtgnmolleaengaaaGreatRp
set_option linter.unusedVariables false
set_option linter.unusedSimpArgs false
set_option linter.unnecessarySimpa false
namespace Go.Proofs.YtgnmolleaengaaaGreat
open Go Go.RowKit

theorem before_lx {a b : Jb} (ha : OkJ a) (hb : OkJ b) : beforeF a b = true ↔ Lx a b := by
  unfold beforeF
  rw [decide_eq_true_eq]
  exact lt_iff ha hb
theorem before_asym {a b : Jb} (ha : OkJ a) (hb : OkJ b) (h : beforeF a b = true) : beforeF b a = false := by
  cases h2 : beforeF b a with
  | false => rfl
  | true => exact absurd ((before_lx hb ha).1 h2) ((before_lx ha hb).1 h).asymm
theorem before_total {a b : Jb} (ha : OkJ a) (hb : OkJ b) (hk : (a.vol, a.frag) ≠ (b.vol, b.frag)) (h : beforeF a b = false) : beforeF b a = true := by
  rcases Lx.total hk with h1 | h1
  · rw [(before_lx ha hb).2 h1] at h; cases h
  · exact (before_lx hb ha).2 h1
theorem before_trans {a b c : Jb} (ha : OkJ a) (hb : OkJ b) (hc : OkJ c) (h1 : beforeF a b = true) (h2 : beforeF b c = true) : beforeF a c = true := (before_lx ha hc).2 (((before_lx ha hb).1 h1).trans ((before_lx hb hc).1 h2))

/-- a pointer's block -/
def ownP : Value → Option Nat
  | .pointer (some a) => some a.block
  | _ => none
/-- a job, as Job gives it -/
def JobV (j : Jb) (u : Value) (w : World) : Prop := ∃ pa pc qa qc, u = jv j (.slice pa (limb j.n).length pc) (.slice qa (limb j.d).length qc) ∧ Ru w (.slice pa (limb j.n).length pc) (limb j.n) ∧ Ru w (.slice qa (limb j.d).length qc) (limb j.d)
theorem JobV.stable (j : Jb) (u : Value) : Stable (JobV j u) := fun _ _ ⟨pa, pc, qa, qc, e, h1, h2⟩ hb => ⟨pa, pc, qa, qc, e, h1.keep hb, h2.keep hb⟩
abbrev zJob : Array Value := #[.int .i64 0, .int .i64 0, .int .i64 0, .bool false, .slice none 0 0, .slice none 0 0, .int .i64 0]
def BoxV (B : Nat) (u : Value) (w : World) : Prop := ∃ b, u = .pointer (some ⟨b, 0, none⟩) ∧ B ≤ b ∧ Holds w b zJob ∧ TyB w b 29
theorem BoxV.stable (B : Nat) (u : Value) : Stable (BoxV B u) := fun _ _ ⟨b, e, h1, h2, h3⟩ hb => ⟨b, e, h1, h2.keep hb, h3.keep hb⟩
def WO (B : Nat) (x y z : Jb) : Nat → Value → World → Prop
  | 1 => JobV x
  | 3 => JobV y
  | 5 => JobV z
  | _ => BoxV B
theorem WO.stable (B : Nat) (x y z : Jb) (i : Nat) (u : Value) : Stable (WO B x y z i u) := by
  unfold WO
  split
  · exact JobV.stable _ _
  · exact JobV.stable _ _
  · exact JobV.stable _ _
  · exact BoxV.stable _ _

/-- a job that lies in a box -/
structure Bj (w : World) (b : Nat) (j : Jb) (pa : Option Addr) (pc : Nat) (qa : Option Addr) (qc : Nat) : Prop where
  box : Holds w b (jc j (.slice pa (limb j.n).length pc) (.slice qa (limb j.d).length qc))
  num : Ru w (.slice pa (limb j.n).length pc) (limb j.n)
  den : Ru w (.slice qa (limb j.d).length qc) (limb j.d)
theorem Bj.keep {w w' : World} {b : Nat} {j : Jb} {pa : Option Addr} {pc : Nat} {qa : Option Addr} {qc : Nat} (h : Bj w b j pa pc qa qc) (hb : Below w.heap.size w w') : Bj w' b j pa pc qa qc := ⟨h.box.keep hb, h.num.keep hb, h.den.keep hb⟩
theorem only_setAll {S : List Nat} {b : Nat} (hb : b ∈ S) : ∀ (vs : List Value) (n : Nat) (w : World), Only S w (setAll w b n vs)
  | [], _, w => Only.refl _ _
  | v :: vs, n, w => ((Only.refl S w).setCell (.inl hb) n v).trans (only_setAll hb vs (n + 1) _)

theorem neq_kv2 (k k' : Ky) (w : World) : (binOp .neq 33 (kv k) (kv k')).run Tryz.prog w = .ok (.bool (!decide (k = k'))) w := by
  simp only [binOp]
  simp [eq_kv]







set_option maxRecDepth 20000 in
set_option maxHeartbeats 8000000 in
theorem orders_law (ox oy oz : Opc) (hx : OkOp ox) (hy : OkOp oy) (hz : OkOp oz) (w : World) : Calls Tryz.prog 3 #[ov ox, ov oy, ov oz] w fun e w' => e = .returned (.bool true) ∧ Below w.heap.size w w' := by
  have hM := (((Mm.start (S := []) w (by simp)).push w.heap.size (oc ox) 23 rfl).push (w.heap.size + 1) (oc oy) 23 (by simp)).push (w.heap.size + 2) (oc oz) 23 (by simp)
  have HM := Lib.hid hM
  have HB0 := Lib.hid (hM.only.below (B := w.heap.size) (by simp) (Nat.le_refl _))
  obtain ⟨x, hjx⟩ : ∃ j, jobF ox = j := ⟨_, rfl⟩
  obtain ⟨y, hjy⟩ : ∃ j, jobF oy = j := ⟨_, rfl⟩
  obtain ⟨z, hjz⟩ : ∃ j, jobF oz = j := ⟨_, rfl⟩
  have KX : ∀ w, Hid (Calls Tryz.prog 7 #[ov ox] w (JobPost w x)) := fun w => Lib.hid (by rw [← hjx]; exact job_any ox hx w)
  have KY : ∀ w, Hid (Calls Tryz.prog 7 #[ov oy] w (JobPost w y)) := fun w => Lib.hid (by rw [← hjy]; exact job_any oy hy w)
  have KZ : ∀ w, Hid (Calls Tryz.prog 7 #[ov oz] w (JobPost w z)) := fun w => Lib.hid (by rw [← hjz]; exact job_any oz hz w)
  have OX := Lib.hid (show OkJ x by rw [← hjx]; exact jobF_ok ox)
  have OY := Lib.hid (show OkJ y by rw [← hjy]; exact jobF_ok oy)
  have OZ := Lib.hid (show OkJ z by rw [← hjz]; exact jobF_ok oz)
  clear hM hjx hjy hjz hx hy hz
  obtain ⟨xk, xv, xf, xc, xr, xn, xd⟩ := ox
  obtain ⟨yk, yv, yf, yc, yr, yn, yd⟩ := oy
  obtain ⟨zk, zv, zf, zc, zr, zn, zd⟩ := oz
  go_enter Tryz.func3, Tryz.ntmps3
  go_wp2_with fail
  obtain ⟨W, hW⟩ : ∃ W, ((w.alloc (.cells #[.int .i64 xk, .int .i64 xv, .int .i64 xf, .int .i64 xc, .int .i64 xr, .int .i64 xn, .int .i64 xd] 23)).alloc (.cells #[.int .i64 yk, .int .i64 yv, .int .i64 yf, .int .i64 yc, .int .i64 yr, .int .i64 yn, .int .i64 yd] 23)).alloc (.cells #[.int .i64 zk, .int .i64 zv, .int .i64 zf, .int .i64 zc, .int .i64 zr, .int .i64 zn, .int .i64 zd] 23) = W := ⟨_, rfl⟩
  change Hid (Mm [] w (((w.alloc (.cells #[.int .i64 xk, .int .i64 xv, .int .i64 xf, .int .i64 xc, .int .i64 xr, .int .i64 xn, .int .i64 xd] 23)).alloc (.cells #[.int .i64 yk, .int .i64 yv, .int .i64 yf, .int .i64 yc, .int .i64 yr, .int .i64 yn, .int .i64 yd] 23)).alloc (.cells #[.int .i64 zk, .int .i64 zv, .int .i64 zf, .int .i64 zc, .int .i64 zr, .int .i64 zn, .int .i64 zd] 23)) [(w.heap.size + 2, #[.int .i64 zk, .int .i64 zv, .int .i64 zf, .int .i64 zc, .int .i64 zr, .int .i64 zn, .int .i64 zd]), (w.heap.size + 1, #[.int .i64 yk, .int .i64 yv, .int .i64 yf, .int .i64 yc, .int .i64 yr, .int .i64 yn, .int .i64 yd]), (w.heap.size, #[.int .i64 xk, .int .i64 xv, .int .i64 xf, .int .i64 xc, .int .i64 xr, .int .i64 xn, .int .i64 xd])]) at HM
  change Hid (Below w.heap.size w (((w.alloc (.cells #[.int .i64 xk, .int .i64 xv, .int .i64 xf, .int .i64 xc, .int .i64 xr, .int .i64 xn, .int .i64 xd] 23)).alloc (.cells #[.int .i64 yk, .int .i64 yv, .int .i64 yf, .int .i64 yc, .int .i64 yr, .int .i64 yn, .int .i64 yd] 23)).alloc (.cells #[.int .i64 zk, .int .i64 zv, .int .i64 zf, .int .i64 zc, .int .i64 zr, .int .i64 zn, .int .i64 zd] 23))) at HB0
  rw [hW] at HM HB0 ⊢
  clear hW
  refine wp_region_semi_tail (Below W.heap.size W) (Below W.heap.size W) [0, 2, 4] [(1, 11), (3, 13), (5, 15), (6, 7), (7, 8), (8, 9)] 9 ownP (WO W.heap.size x y z) (by kernel_rfl) (by kernel_rfl) (by kernel_rfl) (by kernel_rfl) (fun _ _ h hb => h.trans (hb.mono h.size)) (fun _ h => h) (Below.refl _ _) ?_
  repeat (apply pRow_plain
          · exact rfl
          · exact rfl
          · intro wg hg
            ((obtain ⟨a0, a1, a2, a3, a4, a5, a6, -⟩ := (HM.out.call hg).lay7 0 rfl; obtain ⟨b0, b1, b2, b3, b4, b5, b6, -⟩ := (HM.out.call hg).lay7 1 rfl; obtain ⟨c0, c1, c2, c3, c4, c5, c6, -⟩ := (HM.out.call hg).lay7 2 rfl))
            go_simp
            first
              | exact rfl
              | exact Below.refl _ _
              | exact ⟨Below.refl _ _, rfl⟩
              | ((fail))
          intro K hK
          go_simp
          refine hK _ ?_
          clear hK K)
  refine pRow_nil ⟨?_, ?_⟩
  · intro i hi
    have hi' : i = 1 ∨ i = 3 ∨ i = 5 ∨ i = 6 ∨ i = 7 ∨ i = 8 := by simpa using hi
    refine ⟨WO.stable _ _ _ _ i, ?_⟩
    rcases hi' with rfl | rfl | rfl | rfl | rfl | rfl
    · refine ⟨_, rfl, rfl, fun wg hg => ?_⟩
      go_simp
      with_reducible refine (KX _).out.mono ?_
      rintro e w' ⟨pa, pc, qa, qc, rfl, r1, r2, hb⟩
      exact ⟨_, rfl, ⟨pa, pc, qa, qc, rfl, r1, r2⟩, hb, fun k hk => by cases hk⟩
    · refine ⟨_, rfl, rfl, fun wg hg => ?_⟩
      go_simp
      with_reducible refine (KY _).out.mono ?_
      rintro e w' ⟨pa, pc, qa, qc, rfl, r1, r2, hb⟩
      exact ⟨_, rfl, ⟨pa, pc, qa, qc, rfl, r1, r2⟩, hb, fun k hk => by cases hk⟩
    · refine ⟨_, rfl, rfl, fun wg hg => ?_⟩
      go_simp
      with_reducible refine (KZ _).out.mono ?_
      rintro e w' ⟨pa, pc, qa, qc, rfl, r1, r2, hb⟩
      exact ⟨_, rfl, ⟨pa, pc, qa, qc, rfl, r1, r2⟩, hb, fun k hk => by cases hk⟩
    all_goals
      refine ⟨_, rfl, rfl, fun wg hg => ?_⟩
      have HK : BoxV W.heap.size (.pointer (some ⟨wg.heap.size, 0, none⟩)) (wg.alloc (.cells zJob 29)) ∧ Below wg.heap.size wg (wg.alloc (.cells zJob 29)) ∧ ∀ k, ownP (.pointer (some ⟨wg.heap.size, 0, none⟩)) = some k → wg.heap.size ≤ k ∧ k < (wg.alloc (.cells zJob 29)).heap.size :=
        ⟨⟨_, rfl, hg.size, Holds.new _ _ _, TyB.new _ _ _⟩, below_alloc _ _, fun k hk => by cases hk; exact ⟨Nat.le_refl _, by simp⟩⟩
      exact HK
  intro us hus wg hd
  clear hus
  obtain ⟨xa, xc1, xb, xc2, e1, u1, u2⟩ : JobV x (us 1) wg := hd.all 1 (by simp)
  obtain ⟨ya, yc1, yb, yc2, e3, u3, u4⟩ : JobV y (us 3) wg := hd.all 3 (by simp)
  obtain ⟨za, zc1, zb, zc2, e5, u5, u6⟩ : JobV z (us 5) wg := hd.all 5 (by simp)
  obtain ⟨bx, e6, g1, g2, g3⟩ : BoxV W.heap.size (us 6) wg := hd.all 6 (by simp)
  obtain ⟨by', e7, g4, g5, g6⟩ : BoxV W.heap.size (us 7) wg := hd.all 7 (by simp)
  obtain ⟨bz, e8, g7, g8, g9⟩ : BoxV W.heap.size (us 8) wg := hd.all 8 (by simp)
  have n67 : bx ≠ by' := fun e => hd.ne 6 (by simp) 7 (by simp) (by decide) bx (by rw [e6]; rfl) (by rw [e7, e]; rfl)
  have n68 : bx ≠ bz := fun e => hd.ne 6 (by simp) 8 (by simp) (by decide) bx (by rw [e6]; rfl) (by rw [e8, e]; rfl)
  have n78 : by' ≠ bz := fun e => hd.ne 7 (by simp) 8 (by simp) (by decide) by' (by rw [e7]; rfl) (by rw [e8, e]; rfl)
  have hbe := hd.base
  simp only [putP, e1, e3, e5, e6, e7, e8]
  clear e1 e3 e5 e6 e7 e8 hd
  obtain ⟨x1, x2, x3, x4, xn, xd⟩ := x
  obtain ⟨y1, y2, y3, y4, yn, yd⟩ := y
  obtain ⟨z1, z2, z3, z4, zn, zd⟩ := z
  have hmm : Mm [] W wg [(bz, zJob), (by', zJob), (bx, zJob)] := ⟨by simp, Only.of_below [] hbe, fun p hp => by
      rcases List.mem_cons.1 hp with rfl | hp
      · exact ⟨g7, g8⟩
      rcases List.mem_cons.1 hp with rfl | hp
      · exact ⟨g4, g5⟩
      rw [List.mem_singleton.1 hp]
      exact ⟨g1, g2⟩, by simp [n67.symm, n68.symm, n78.symm]⟩
  have hm1 := hmm.put7 2 rfl (.int .i64 x1) (.int .i64 x2) (.int .i64 x3) (.bool false) (.slice xa (limb xn).length xc1) (.slice xb (limb xd).length xc2) (.int .i64 x4)
  have hm2 := hm1.put7 1 rfl (.int .i64 y1) (.int .i64 y2) (.int .i64 y3) (.bool false) (.slice ya (limb yn).length yc1) (.slice yb (limb yd).length yc2) (.int .i64 y4)
  have hm3 := hm2.put7 0 rfl (.int .i64 z1) (.int .i64 z2) (.int .i64 z3) (.bool false) (.slice za (limb zn).length zc1) (.slice zb (limb zd).length zc2) (.int .i64 z4)
  have hon : Only [bx, by', bz] wg (setAll (setAll (setAll wg bx 0 [.int .i64 x1, .int .i64 x2, .int .i64 x3, .bool false, .slice xa (limb xn).length xc1, .slice xb (limb xd).length xc2, .int .i64 x4]) by' 0 [.int .i64 y1, .int .i64 y2, .int .i64 y3, .bool false, .slice ya (limb yn).length yc1, .slice yb (limb yd).length yc2, .int .i64 y4]) bz 0 [.int .i64 z1, .int .i64 z2, .int .i64 z3, .bool false, .slice za (limb zn).length zc1, .slice zb (limb zd).length zc2, .int .i64 z4]) :=
    ((only_setAll (by simp) _ _ _).trans (only_setAll (by simp) _ _ _)).trans (only_setAll (by simp) _ _ _)
  have hS : ∀ s ∈ [bx, by', bz], ∃ t, TyB wg s t ∧ t ≠ 94 := fun s hs => by
    refine ⟨29, ?_, by decide⟩
    rcases List.mem_cons.1 hs with rfl | hs
    · exact g3
    rcases List.mem_cons.1 hs with rfl | hs
    · exact g6
    rw [List.mem_singleton.1 hs]
    exact g9
  have r1 := u1.only hon hS
  have r2 := u2.only hon hS
  have r3 := u3.only hon hS
  have r4 := u4.only hon hS
  have r5 := u5.only hon hS
  have r6 := u6.only hon hS
  have hbw := HB0.out.trans ((hm3.only.below (B := W.heap.size) (by simp) (Nat.le_refl _)).mono HB0.out.size)
  simp only [setAll, Nat.zero_add, Nat.reduceAdd] at r1 r2 r3 r4 r5 r6
  obtain ⟨p0, p1, p2, p3, p4, p5, p6, f0, f1, f2, f3, f4, f5, f6, pl⟩ := hmm.lay7 2 rfl
  obtain ⟨q0, q1, q2, q3, q4, q5, q6, h0, h1, h2, h3, h4, h5, h6, ql⟩ := hm1.lay7 1 rfl
  obtain ⟨s0, s1, s2, s3, s4, s5, s6, k0, k1, k2, k3, k4, k5, k6, sl⟩ := hm2.lay7 0 rfl
  have HX := Lib.hid (show Bj _ bx ⟨x1, x2, x3, x4, xn, xd⟩ xa xc1 xb xc2 from ⟨hm3.at (k := 2) rfl, r1, r2⟩)
  have HY := Lib.hid (show Bj _ by' ⟨y1, y2, y3, y4, yn, yd⟩ ya yc1 yb yc2 from ⟨hm3.at (k := 1) rfl, r3, r4⟩)
  have HZ := Lib.hid (show Bj _ bz ⟨z1, z2, z3, z4, zn, zd⟩ za zc1 zb zc2 from ⟨hm3.at (k := 0) rfl, r5, r6⟩)
  have HBW := Lib.hid hbw
  clear hbw r1 r2 r3 r4 r5 r6 hon hS hmm hm1 hm2 hm3 u1 u2 u3 u4 u5 u6 g1 g2 g3 g4 g5 g6 g7 g8 g9 hbe
  go_wp2_with fail
  generalize (((((((((((((((((((((wg.setCell ⟨bx, 0, none⟩ (.int .i64 x1)).setCell ⟨bx, 1, none⟩ (.int .i64 x2)).setCell ⟨bx, 2, none⟩ (.int .i64 x3)).setCell ⟨bx, 3, none⟩ (.bool false)).setCell ⟨bx, 4, none⟩ (.slice xa (limb xn).length xc1)).setCell ⟨bx, 5, none⟩ (.slice xb (limb xd).length xc2)).setCell ⟨bx, 6, none⟩ (.int .i64 x4)).setCell ⟨by', 0, none⟩ (.int .i64 y1)).setCell ⟨by', 1, none⟩ (.int .i64 y2)).setCell ⟨by', 2, none⟩ (.int .i64 y3)).setCell ⟨by', 3, none⟩ (.bool false)).setCell ⟨by', 4, none⟩ (.slice ya (limb yn).length yc1)).setCell ⟨by', 5, none⟩ (.slice yb (limb yd).length yc2)).setCell ⟨by', 6, none⟩ (.int .i64 y4)).setCell ⟨bz, 0, none⟩ (.int .i64 z1)).setCell ⟨bz, 1, none⟩ (.int .i64 z2)).setCell ⟨bz, 2, none⟩ (.int .i64 z3)).setCell ⟨bz, 3, none⟩ (.bool false)).setCell ⟨bz, 4, none⟩ (.slice za (limb zn).length zc1)).setCell ⟨bz, 5, none⟩ (.slice zb (limb zd).length zc2)).setCell ⟨bz, 6, none⟩ (.int .i64 z4)) = wc at HX HY HZ HBW ⊢
  clear p0 p1 p2 p3 p4 p5 p6 f0 f1 f2 f3 f4 f5 f6 pl q0 q1 q2 q3 q4 q5 q6 h0 h1 h2 h3 h4 h5 h6 ql s0 s1 s2 s3 s4 s5 s6 k0 k1 k2 k3 k4 k5 k6 sl n67 n68 n78 KX KY KZ HM HB0
  obtain ⟨p, hp⟩ : ∃ p, beforeF ⟨x1, x2, x3, x4, xn, xd⟩ ⟨y1, y2, y3, y4, yn, yd⟩ = p := ⟨_, rfl⟩
  obtain ⟨q, hq⟩ : ∃ p, beforeF ⟨y1, y2, y3, y4, yn, yd⟩ ⟨x1, x2, x3, x4, xn, xd⟩ = p := ⟨_, rfl⟩
  obtain ⟨s, hs⟩ : ∃ p, beforeF ⟨y1, y2, y3, y4, yn, yd⟩ ⟨z1, z2, z3, z4, zn, zd⟩ = p := ⟨_, rfl⟩
  obtain ⟨t, ht⟩ : ∃ p, beforeF ⟨x1, x2, x3, x4, xn, xd⟩ ⟨z1, z2, z3, z4, zn, zd⟩ = p := ⟨_, rfl⟩
  have PP := Lib.hid hp
  have PQ := Lib.hid hq
  have PS := Lib.hid hs
  have PT := Lib.hid ht
  have hpq : p = true → q = false := fun e => by rw [← hq]; exact before_asym OX.out OY.out (hp.trans e)
  have htr : p = true → s = true → t = true := fun e1 e2 => by rw [← ht]; exact before_trans OX.out OY.out OZ.out (hp.trans e1) (hs.trans e2)
  have hto : (x1, x2) ≠ (y1, y2) → p = false → q = true := fun e1 e2 => by rw [← hq]; exact before_total OX.out OY.out e1 (hp.trans e2)
  clear hp hq hs ht
  by_cases hk : (x1, x2) = (y1, y2)
  · have hkd : ∀ w, (binOp .neq 33 (.agg #[.int .i64 x1, .int .i64 x2]) (.agg #[.int .i64 y1, .int .i64 y2])).run Tryz.prog w = .ok (.bool false) w := fun w => (neq_kv2 (x1, x2) (y1, y2) w).trans (by rw [decide_eq_true hk]; rfl)
    clear hk hto
    cases p with
    | true =>
      obtain rfl := hpq rfl
      cases s with
      | true =>
        obtain rfl := htr rfl rfl
        clear hpq htr
        (
          refine wp_region_grow (Below wc.heap.size wc) (by kernel_rfl) (by kernel_rfl) (Below.refl _ _).drew ?_
          repeat first
                   | (apply gRow_plain
                      · exact rfl
                      · intro wg hg
                        (((
                            obtain ⟨p0, p1, p2, p3, p4, p5, p6, -⟩ := (HX.out.keep hg).box.lay7
                            obtain ⟨q0, q1, q2, q3, q4, q5, q6, -⟩ := (HY.out.keep hg).box.lay7)))
                        go_simp
                        first
                          | exact rfl
                          | exact hg
                          | exact ⟨hg, rfl⟩
                          | (((
                                first
                                  | ((with_reducible refine (jbefore_as OX.out OY.out (HX.out.keep hg).num.rd (HX.out.keep hg).den.rd (HY.out.keep hg).num.rd (HY.out.keep hg).den.rd PP.out).mono ?_); rintro e w' ⟨rfl, hb⟩; exact ⟨rfl, hg.trans (hb.mono hg.size)⟩)
                                  | ((with_reducible refine (rbefore_as OX.out OY.out (HX.out.keep hg).num.rd (HX.out.keep hg).den.rd (HY.out.keep hg).num.rd (HY.out.keep hg).den.rd PP.out).mono ?_); rintro e w' ⟨rfl, hb⟩; exact ⟨rfl, hg.trans (hb.mono hg.size)⟩)
                                  | ((with_reducible refine (jbefore_as OY.out OX.out (HY.out.keep hg).num.rd (HY.out.keep hg).den.rd (HX.out.keep hg).num.rd (HX.out.keep hg).den.rd PQ.out).mono ?_); rintro e w' ⟨rfl, hb⟩; exact ⟨rfl, hg.trans (hb.mono hg.size)⟩)
                                  | ((with_reducible refine (rkey_as ⟨x1, x2, x3, x4, xn, xd⟩ _ _ _ _ _ _ _).mono ?_); rintro e w' ⟨rfl, hb⟩; exact ⟨rfl, hg.trans (hb.mono hg.size)⟩)
                                  | ((with_reducible refine (rkey_as ⟨y1, y2, y3, y4, yn, yd⟩ _ _ _ _ _ _ _).mono ?_); rintro e w' ⟨rfl, hb⟩; exact ⟨rfl, hg.trans (hb.mono hg.size)⟩))))
                      intro K hK
                      go_simp
                      refine hK _ ?_
                      clear hK K)
                   | (apply gRow_step
                      · go_simp; done
                      · intro wg hg
                        (((
                            obtain ⟨p0, p1, p2, p3, p4, p5, p6, -⟩ := (HX.out.keep hg).box.lay7
                            obtain ⟨q0, q1, q2, q3, q4, q5, q6, -⟩ := (HY.out.keep hg).box.lay7)))
                        go_simp
                        first
                          | exact rfl
                          | exact hg
                          | exact ⟨hg, rfl⟩
                          | (((
                                first
                                  | ((with_reducible refine (jbefore_as OX.out OY.out (HX.out.keep hg).num.rd (HX.out.keep hg).den.rd (HY.out.keep hg).num.rd (HY.out.keep hg).den.rd PP.out).mono ?_); rintro e w' ⟨rfl, hb⟩; exact ⟨rfl, hg.trans (hb.mono hg.size)⟩)
                                  | ((with_reducible refine (rbefore_as OX.out OY.out (HX.out.keep hg).num.rd (HX.out.keep hg).den.rd (HY.out.keep hg).num.rd (HY.out.keep hg).den.rd PP.out).mono ?_); rintro e w' ⟨rfl, hb⟩; exact ⟨rfl, hg.trans (hb.mono hg.size)⟩)
                                  | ((with_reducible refine (jbefore_as OY.out OX.out (HY.out.keep hg).num.rd (HY.out.keep hg).den.rd (HX.out.keep hg).num.rd (HX.out.keep hg).den.rd PQ.out).mono ?_); rintro e w' ⟨rfl, hb⟩; exact ⟨rfl, hg.trans (hb.mono hg.size)⟩)
                                  | ((with_reducible refine (rkey_as ⟨x1, x2, x3, x4, xn, xd⟩ _ _ _ _ _ _ _).mono ?_); rintro e w' ⟨rfl, hb⟩; exact ⟨rfl, hg.trans (hb.mono hg.size)⟩)
                                  | ((with_reducible refine (rkey_as ⟨y1, y2, y3, y4, yn, yd⟩ _ _ _ _ _ _ _).mono ?_); rintro e w' ⟨rfl, hb⟩; exact ⟨rfl, hg.trans (hb.mono hg.size)⟩))))
                      intro K hK
                      go_simp
                      refine hK _ ?_
                      clear hK K)
                   | (apply gRow_not
                      · go_simp; done
                      intro K hK
                      go_simp
                      refine hK _ ?_
                      clear hK K)
          refine gRow_nil ?_
          intro wd hb
          (
            replace HX := Lib.hid (HX.out.keep hb)
            replace HY := Lib.hid (HY.out.keep hb)
            replace HZ := Lib.hid (HZ.out.keep hb)
            replace HBW := Lib.hid (HBW.out.trans (hb.mono HBW.out.size)))
          clear hb
          go_wp2_with fail
          refine wp_region_grow (Below wd.heap.size wd) (by kernel_rfl) (by kernel_rfl) (Below.refl _ _).drew ?_
          repeat first
                   | (apply gRow_plain
                      · exact rfl
                      · intro wg hg
                        (((
                            obtain ⟨p0, p1, p2, p3, p4, p5, p6, -⟩ := (HX.out.keep hg).box.lay7
                            obtain ⟨q0, q1, q2, q3, q4, q5, q6, -⟩ := (HY.out.keep hg).box.lay7)))
                        go_simp
                        first
                          | exact rfl
                          | exact hg
                          | exact ⟨hg, rfl⟩
                          | (((
                                first
                                  | ((with_reducible refine (jbefore_as OX.out OY.out (HX.out.keep hg).num.rd (HX.out.keep hg).den.rd (HY.out.keep hg).num.rd (HY.out.keep hg).den.rd PP.out).mono ?_); rintro e w' ⟨rfl, hb⟩; exact ⟨rfl, hg.trans (hb.mono hg.size)⟩)
                                  | ((with_reducible refine (rbefore_as OX.out OY.out (HX.out.keep hg).num.rd (HX.out.keep hg).den.rd (HY.out.keep hg).num.rd (HY.out.keep hg).den.rd PP.out).mono ?_); rintro e w' ⟨rfl, hb⟩; exact ⟨rfl, hg.trans (hb.mono hg.size)⟩)
                                  | ((with_reducible refine (jbefore_as OY.out OX.out (HY.out.keep hg).num.rd (HY.out.keep hg).den.rd (HX.out.keep hg).num.rd (HX.out.keep hg).den.rd PQ.out).mono ?_); rintro e w' ⟨rfl, hb⟩; exact ⟨rfl, hg.trans (hb.mono hg.size)⟩)
                                  | ((with_reducible refine (rkey_as ⟨x1, x2, x3, x4, xn, xd⟩ _ _ _ _ _ _ _).mono ?_); rintro e w' ⟨rfl, hb⟩; exact ⟨rfl, hg.trans (hb.mono hg.size)⟩)
                                  | ((with_reducible refine (rkey_as ⟨y1, y2, y3, y4, yn, yd⟩ _ _ _ _ _ _ _).mono ?_); rintro e w' ⟨rfl, hb⟩; exact ⟨rfl, hg.trans (hb.mono hg.size)⟩))))
                      intro K hK
                      go_simp
                      refine hK _ ?_
                      clear hK K)
                   | (apply gRow_step
                      · go_simp; done
                      · intro wg hg
                        (((
                            obtain ⟨p0, p1, p2, p3, p4, p5, p6, -⟩ := (HX.out.keep hg).box.lay7
                            obtain ⟨q0, q1, q2, q3, q4, q5, q6, -⟩ := (HY.out.keep hg).box.lay7)))
                        go_simp
                        first
                          | exact rfl
                          | exact hg
                          | exact ⟨hg, rfl⟩
                          | (((
                                first
                                  | ((with_reducible refine (jbefore_as OX.out OY.out (HX.out.keep hg).num.rd (HX.out.keep hg).den.rd (HY.out.keep hg).num.rd (HY.out.keep hg).den.rd PP.out).mono ?_); rintro e w' ⟨rfl, hb⟩; exact ⟨rfl, hg.trans (hb.mono hg.size)⟩)
                                  | ((with_reducible refine (rbefore_as OX.out OY.out (HX.out.keep hg).num.rd (HX.out.keep hg).den.rd (HY.out.keep hg).num.rd (HY.out.keep hg).den.rd PP.out).mono ?_); rintro e w' ⟨rfl, hb⟩; exact ⟨rfl, hg.trans (hb.mono hg.size)⟩)
                                  | ((with_reducible refine (jbefore_as OY.out OX.out (HY.out.keep hg).num.rd (HY.out.keep hg).den.rd (HX.out.keep hg).num.rd (HX.out.keep hg).den.rd PQ.out).mono ?_); rintro e w' ⟨rfl, hb⟩; exact ⟨rfl, hg.trans (hb.mono hg.size)⟩)
                                  | ((with_reducible refine (rkey_as ⟨x1, x2, x3, x4, xn, xd⟩ _ _ _ _ _ _ _).mono ?_); rintro e w' ⟨rfl, hb⟩; exact ⟨rfl, hg.trans (hb.mono hg.size)⟩)
                                  | ((with_reducible refine (rkey_as ⟨y1, y2, y3, y4, yn, yd⟩ _ _ _ _ _ _ _).mono ?_); rintro e w' ⟨rfl, hb⟩; exact ⟨rfl, hg.trans (hb.mono hg.size)⟩))))
                      intro K hK
                      go_simp
                      refine hK _ ?_
                      clear hK K)
                   | (apply gRow_not
                      · go_simp; done
                      intro K hK
                      go_simp
                      refine hK _ ?_
                      clear hK K)
          refine gRow_nil ?_
          intro we hb
          (
            replace HX := Lib.hid (HX.out.keep hb)
            replace HY := Lib.hid (HY.out.keep hb)
            replace HZ := Lib.hid (HZ.out.keep hb)
            replace HBW := Lib.hid (HBW.out.trans (hb.mono HBW.out.size)))
          clear hb
          (
            obtain ⟨p0, p1, p2, p3, p4, p5, p6, -⟩ := HX.out.box.lay7
            obtain ⟨q0, q1, q2, q3, q4, q5, q6, -⟩ := HY.out.box.lay7
            obtain ⟨r0, r1, r2, r3, r4, r5, r6, -⟩ := HZ.out.box.lay7)
          go_wp2_with (first
            | (go_at_call 11; (with_reducible refine (awake_any _).mono ?_); (
                                                                               rintro e w' ⟨rfl, hb⟩
                                                                               (
                                                                                 replace HX := Lib.hid (HX.out.keep hb)
                                                                                 replace HY := Lib.hid (HY.out.keep hb)
                                                                                 replace HZ := Lib.hid (HZ.out.keep hb)
                                                                                 replace HBW := Lib.hid (HBW.out.trans (hb.mono HBW.out.size)))
                                                                               clear hb p0 p1 p2 p3 p4 p5 p6 q0 q1 q2 q3 q4 q5 q6 r0 r1 r2 r3 r4 r5 r6
                                                                               (
                                                                                 obtain ⟨p0, p1, p2, p3, p4, p5, p6, -⟩ := HX.out.box.lay7
                                                                                 obtain ⟨q0, q1, q2, q3, q4, q5, q6, -⟩ := HY.out.box.lay7
                                                                                 obtain ⟨r0, r1, r2, r3, r4, r5, r6, -⟩ := HZ.out.box.lay7)))
            | (go_at_call 8; (with_reducible refine (jbefore_as OX.out OY.out HX.out.num.rd HX.out.den.rd HY.out.num.rd HY.out.den.rd PP.out).mono ?_); (
                                                                                                                                                          rintro e w' ⟨rfl, hb⟩
                                                                                                                                                          (
                                                                                                                                                            replace HX := Lib.hid (HX.out.keep hb)
                                                                                                                                                            replace HY := Lib.hid (HY.out.keep hb)
                                                                                                                                                            replace HZ := Lib.hid (HZ.out.keep hb)
                                                                                                                                                            replace HBW := Lib.hid (HBW.out.trans (hb.mono HBW.out.size)))
                                                                                                                                                          clear hb p0 p1 p2 p3 p4 p5 p6 q0 q1 q2 q3 q4 q5 q6 r0 r1 r2 r3 r4 r5 r6
                                                                                                                                                          (
                                                                                                                                                            obtain ⟨p0, p1, p2, p3, p4, p5, p6, -⟩ := HX.out.box.lay7
                                                                                                                                                            obtain ⟨q0, q1, q2, q3, q4, q5, q6, -⟩ := HY.out.box.lay7
                                                                                                                                                            obtain ⟨r0, r1, r2, r3, r4, r5, r6, -⟩ := HZ.out.box.lay7)))
            | (go_at_call 8; (with_reducible refine (jbefore_as OY.out OZ.out HY.out.num.rd HY.out.den.rd HZ.out.num.rd HZ.out.den.rd PS.out).mono ?_); (
                                                                                                                                                          rintro e w' ⟨rfl, hb⟩
                                                                                                                                                          (
                                                                                                                                                            replace HX := Lib.hid (HX.out.keep hb)
                                                                                                                                                            replace HY := Lib.hid (HY.out.keep hb)
                                                                                                                                                            replace HZ := Lib.hid (HZ.out.keep hb)
                                                                                                                                                            replace HBW := Lib.hid (HBW.out.trans (hb.mono HBW.out.size)))
                                                                                                                                                          clear hb p0 p1 p2 p3 p4 p5 p6 q0 q1 q2 q3 q4 q5 q6 r0 r1 r2 r3 r4 r5 r6
                                                                                                                                                          (
                                                                                                                                                            obtain ⟨p0, p1, p2, p3, p4, p5, p6, -⟩ := HX.out.box.lay7
                                                                                                                                                            obtain ⟨q0, q1, q2, q3, q4, q5, q6, -⟩ := HY.out.box.lay7
                                                                                                                                                            obtain ⟨r0, r1, r2, r3, r4, r5, r6, -⟩ := HZ.out.box.lay7)))
            | (go_at_call 8; (with_reducible refine (jbefore_as OX.out OZ.out HX.out.num.rd HX.out.den.rd HZ.out.num.rd HZ.out.den.rd PT.out).mono ?_); (
                                                                                                                                                          rintro e w' ⟨rfl, hb⟩
                                                                                                                                                          (
                                                                                                                                                            replace HX := Lib.hid (HX.out.keep hb)
                                                                                                                                                            replace HY := Lib.hid (HY.out.keep hb)
                                                                                                                                                            replace HZ := Lib.hid (HZ.out.keep hb)
                                                                                                                                                            replace HBW := Lib.hid (HBW.out.trans (hb.mono HBW.out.size)))
                                                                                                                                                          clear hb p0 p1 p2 p3 p4 p5 p6 q0 q1 q2 q3 q4 q5 q6 r0 r1 r2 r3 r4 r5 r6
                                                                                                                                                          (
                                                                                                                                                            obtain ⟨p0, p1, p2, p3, p4, p5, p6, -⟩ := HX.out.box.lay7
                                                                                                                                                            obtain ⟨q0, q1, q2, q3, q4, q5, q6, -⟩ := HY.out.box.lay7
                                                                                                                                                            obtain ⟨r0, r1, r2, r3, r4, r5, r6, -⟩ := HZ.out.box.lay7)))
            | (go_at_call 8; (with_reducible refine (jbefore_as OY.out OX.out HY.out.num.rd HY.out.den.rd HX.out.num.rd HX.out.den.rd PQ.out).mono ?_); (
                                                                                                                                                          rintro e w' ⟨rfl, hb⟩
                                                                                                                                                          (
                                                                                                                                                            replace HX := Lib.hid (HX.out.keep hb)
                                                                                                                                                            replace HY := Lib.hid (HY.out.keep hb)
                                                                                                                                                            replace HZ := Lib.hid (HZ.out.keep hb)
                                                                                                                                                            replace HBW := Lib.hid (HBW.out.trans (hb.mono HBW.out.size)))
                                                                                                                                                          clear hb p0 p1 p2 p3 p4 p5 p6 q0 q1 q2 q3 q4 q5 q6 r0 r1 r2 r3 r4 r5 r6
                                                                                                                                                          (
                                                                                                                                                            obtain ⟨p0, p1, p2, p3, p4, p5, p6, -⟩ := HX.out.box.lay7
                                                                                                                                                            obtain ⟨q0, q1, q2, q3, q4, q5, q6, -⟩ := HY.out.box.lay7
                                                                                                                                                            obtain ⟨r0, r1, r2, r3, r4, r5, r6, -⟩ := HZ.out.box.lay7))))
          go_ret
          exact ⟨rfl, HBW.out⟩)
      | false =>
        clear hpq htr
        (
          refine wp_region_grow (Below wc.heap.size wc) (by kernel_rfl) (by kernel_rfl) (Below.refl _ _).drew ?_
          repeat first
                   | (apply gRow_plain
                      · exact rfl
                      · intro wg hg
                        (((
                            obtain ⟨p0, p1, p2, p3, p4, p5, p6, -⟩ := (HX.out.keep hg).box.lay7
                            obtain ⟨q0, q1, q2, q3, q4, q5, q6, -⟩ := (HY.out.keep hg).box.lay7)))
                        go_simp
                        first
                          | exact rfl
                          | exact hg
                          | exact ⟨hg, rfl⟩
                          | (((
                                first
                                  | ((with_reducible refine (jbefore_as OX.out OY.out (HX.out.keep hg).num.rd (HX.out.keep hg).den.rd (HY.out.keep hg).num.rd (HY.out.keep hg).den.rd PP.out).mono ?_); rintro e w' ⟨rfl, hb⟩; exact ⟨rfl, hg.trans (hb.mono hg.size)⟩)
                                  | ((with_reducible refine (rbefore_as OX.out OY.out (HX.out.keep hg).num.rd (HX.out.keep hg).den.rd (HY.out.keep hg).num.rd (HY.out.keep hg).den.rd PP.out).mono ?_); rintro e w' ⟨rfl, hb⟩; exact ⟨rfl, hg.trans (hb.mono hg.size)⟩)
                                  | ((with_reducible refine (jbefore_as OY.out OX.out (HY.out.keep hg).num.rd (HY.out.keep hg).den.rd (HX.out.keep hg).num.rd (HX.out.keep hg).den.rd PQ.out).mono ?_); rintro e w' ⟨rfl, hb⟩; exact ⟨rfl, hg.trans (hb.mono hg.size)⟩)
                                  | ((with_reducible refine (rkey_as ⟨x1, x2, x3, x4, xn, xd⟩ _ _ _ _ _ _ _).mono ?_); rintro e w' ⟨rfl, hb⟩; exact ⟨rfl, hg.trans (hb.mono hg.size)⟩)
                                  | ((with_reducible refine (rkey_as ⟨y1, y2, y3, y4, yn, yd⟩ _ _ _ _ _ _ _).mono ?_); rintro e w' ⟨rfl, hb⟩; exact ⟨rfl, hg.trans (hb.mono hg.size)⟩))))
                      intro K hK
                      go_simp
                      refine hK _ ?_
                      clear hK K)
                   | (apply gRow_step
                      · go_simp; done
                      · intro wg hg
                        (((
                            obtain ⟨p0, p1, p2, p3, p4, p5, p6, -⟩ := (HX.out.keep hg).box.lay7
                            obtain ⟨q0, q1, q2, q3, q4, q5, q6, -⟩ := (HY.out.keep hg).box.lay7)))
                        go_simp
                        first
                          | exact rfl
                          | exact hg
                          | exact ⟨hg, rfl⟩
                          | (((
                                first
                                  | ((with_reducible refine (jbefore_as OX.out OY.out (HX.out.keep hg).num.rd (HX.out.keep hg).den.rd (HY.out.keep hg).num.rd (HY.out.keep hg).den.rd PP.out).mono ?_); rintro e w' ⟨rfl, hb⟩; exact ⟨rfl, hg.trans (hb.mono hg.size)⟩)
                                  | ((with_reducible refine (rbefore_as OX.out OY.out (HX.out.keep hg).num.rd (HX.out.keep hg).den.rd (HY.out.keep hg).num.rd (HY.out.keep hg).den.rd PP.out).mono ?_); rintro e w' ⟨rfl, hb⟩; exact ⟨rfl, hg.trans (hb.mono hg.size)⟩)
                                  | ((with_reducible refine (jbefore_as OY.out OX.out (HY.out.keep hg).num.rd (HY.out.keep hg).den.rd (HX.out.keep hg).num.rd (HX.out.keep hg).den.rd PQ.out).mono ?_); rintro e w' ⟨rfl, hb⟩; exact ⟨rfl, hg.trans (hb.mono hg.size)⟩)
                                  | ((with_reducible refine (rkey_as ⟨x1, x2, x3, x4, xn, xd⟩ _ _ _ _ _ _ _).mono ?_); rintro e w' ⟨rfl, hb⟩; exact ⟨rfl, hg.trans (hb.mono hg.size)⟩)
                                  | ((with_reducible refine (rkey_as ⟨y1, y2, y3, y4, yn, yd⟩ _ _ _ _ _ _ _).mono ?_); rintro e w' ⟨rfl, hb⟩; exact ⟨rfl, hg.trans (hb.mono hg.size)⟩))))
                      intro K hK
                      go_simp
                      refine hK _ ?_
                      clear hK K)
                   | (apply gRow_not
                      · go_simp; done
                      intro K hK
                      go_simp
                      refine hK _ ?_
                      clear hK K)
          refine gRow_nil ?_
          intro wd hb
          (
            replace HX := Lib.hid (HX.out.keep hb)
            replace HY := Lib.hid (HY.out.keep hb)
            replace HZ := Lib.hid (HZ.out.keep hb)
            replace HBW := Lib.hid (HBW.out.trans (hb.mono HBW.out.size)))
          clear hb
          go_wp2_with fail
          refine wp_region_grow (Below wd.heap.size wd) (by kernel_rfl) (by kernel_rfl) (Below.refl _ _).drew ?_
          repeat first
                   | (apply gRow_plain
                      · exact rfl
                      · intro wg hg
                        (((
                            obtain ⟨p0, p1, p2, p3, p4, p5, p6, -⟩ := (HX.out.keep hg).box.lay7
                            obtain ⟨q0, q1, q2, q3, q4, q5, q6, -⟩ := (HY.out.keep hg).box.lay7)))
                        go_simp
                        first
                          | exact rfl
                          | exact hg
                          | exact ⟨hg, rfl⟩
                          | (((
                                first
                                  | ((with_reducible refine (jbefore_as OX.out OY.out (HX.out.keep hg).num.rd (HX.out.keep hg).den.rd (HY.out.keep hg).num.rd (HY.out.keep hg).den.rd PP.out).mono ?_); rintro e w' ⟨rfl, hb⟩; exact ⟨rfl, hg.trans (hb.mono hg.size)⟩)
                                  | ((with_reducible refine (rbefore_as OX.out OY.out (HX.out.keep hg).num.rd (HX.out.keep hg).den.rd (HY.out.keep hg).num.rd (HY.out.keep hg).den.rd PP.out).mono ?_); rintro e w' ⟨rfl, hb⟩; exact ⟨rfl, hg.trans (hb.mono hg.size)⟩)
                                  | ((with_reducible refine (jbefore_as OY.out OX.out (HY.out.keep hg).num.rd (HY.out.keep hg).den.rd (HX.out.keep hg).num.rd (HX.out.keep hg).den.rd PQ.out).mono ?_); rintro e w' ⟨rfl, hb⟩; exact ⟨rfl, hg.trans (hb.mono hg.size)⟩)
                                  | ((with_reducible refine (rkey_as ⟨x1, x2, x3, x4, xn, xd⟩ _ _ _ _ _ _ _).mono ?_); rintro e w' ⟨rfl, hb⟩; exact ⟨rfl, hg.trans (hb.mono hg.size)⟩)
                                  | ((with_reducible refine (rkey_as ⟨y1, y2, y3, y4, yn, yd⟩ _ _ _ _ _ _ _).mono ?_); rintro e w' ⟨rfl, hb⟩; exact ⟨rfl, hg.trans (hb.mono hg.size)⟩))))
                      intro K hK
                      go_simp
                      refine hK _ ?_
                      clear hK K)
                   | (apply gRow_step
                      · go_simp; done
                      · intro wg hg
                        (((
                            obtain ⟨p0, p1, p2, p3, p4, p5, p6, -⟩ := (HX.out.keep hg).box.lay7
                            obtain ⟨q0, q1, q2, q3, q4, q5, q6, -⟩ := (HY.out.keep hg).box.lay7)))
                        go_simp
                        first
                          | exact rfl
                          | exact hg
                          | exact ⟨hg, rfl⟩
                          | (((
                                first
                                  | ((with_reducible refine (jbefore_as OX.out OY.out (HX.out.keep hg).num.rd (HX.out.keep hg).den.rd (HY.out.keep hg).num.rd (HY.out.keep hg).den.rd PP.out).mono ?_); rintro e w' ⟨rfl, hb⟩; exact ⟨rfl, hg.trans (hb.mono hg.size)⟩)
                                  | ((with_reducible refine (rbefore_as OX.out OY.out (HX.out.keep hg).num.rd (HX.out.keep hg).den.rd (HY.out.keep hg).num.rd (HY.out.keep hg).den.rd PP.out).mono ?_); rintro e w' ⟨rfl, hb⟩; exact ⟨rfl, hg.trans (hb.mono hg.size)⟩)
                                  | ((with_reducible refine (jbefore_as OY.out OX.out (HY.out.keep hg).num.rd (HY.out.keep hg).den.rd (HX.out.keep hg).num.rd (HX.out.keep hg).den.rd PQ.out).mono ?_); rintro e w' ⟨rfl, hb⟩; exact ⟨rfl, hg.trans (hb.mono hg.size)⟩)
                                  | ((with_reducible refine (rkey_as ⟨x1, x2, x3, x4, xn, xd⟩ _ _ _ _ _ _ _).mono ?_); rintro e w' ⟨rfl, hb⟩; exact ⟨rfl, hg.trans (hb.mono hg.size)⟩)
                                  | ((with_reducible refine (rkey_as ⟨y1, y2, y3, y4, yn, yd⟩ _ _ _ _ _ _ _).mono ?_); rintro e w' ⟨rfl, hb⟩; exact ⟨rfl, hg.trans (hb.mono hg.size)⟩))))
                      intro K hK
                      go_simp
                      refine hK _ ?_
                      clear hK K)
                   | (apply gRow_not
                      · go_simp; done
                      intro K hK
                      go_simp
                      refine hK _ ?_
                      clear hK K)
          refine gRow_nil ?_
          intro we hb
          (
            replace HX := Lib.hid (HX.out.keep hb)
            replace HY := Lib.hid (HY.out.keep hb)
            replace HZ := Lib.hid (HZ.out.keep hb)
            replace HBW := Lib.hid (HBW.out.trans (hb.mono HBW.out.size)))
          clear hb
          (
            obtain ⟨p0, p1, p2, p3, p4, p5, p6, -⟩ := HX.out.box.lay7
            obtain ⟨q0, q1, q2, q3, q4, q5, q6, -⟩ := HY.out.box.lay7
            obtain ⟨r0, r1, r2, r3, r4, r5, r6, -⟩ := HZ.out.box.lay7)
          go_wp2_with (first
            | (go_at_call 11; (with_reducible refine (awake_any _).mono ?_); (
                                                                               rintro e w' ⟨rfl, hb⟩
                                                                               (
                                                                                 replace HX := Lib.hid (HX.out.keep hb)
                                                                                 replace HY := Lib.hid (HY.out.keep hb)
                                                                                 replace HZ := Lib.hid (HZ.out.keep hb)
                                                                                 replace HBW := Lib.hid (HBW.out.trans (hb.mono HBW.out.size)))
                                                                               clear hb p0 p1 p2 p3 p4 p5 p6 q0 q1 q2 q3 q4 q5 q6 r0 r1 r2 r3 r4 r5 r6
                                                                               (
                                                                                 obtain ⟨p0, p1, p2, p3, p4, p5, p6, -⟩ := HX.out.box.lay7
                                                                                 obtain ⟨q0, q1, q2, q3, q4, q5, q6, -⟩ := HY.out.box.lay7
                                                                                 obtain ⟨r0, r1, r2, r3, r4, r5, r6, -⟩ := HZ.out.box.lay7)))
            | (go_at_call 8; (with_reducible refine (jbefore_as OX.out OY.out HX.out.num.rd HX.out.den.rd HY.out.num.rd HY.out.den.rd PP.out).mono ?_); (
                                                                                                                                                          rintro e w' ⟨rfl, hb⟩
                                                                                                                                                          (
                                                                                                                                                            replace HX := Lib.hid (HX.out.keep hb)
                                                                                                                                                            replace HY := Lib.hid (HY.out.keep hb)
                                                                                                                                                            replace HZ := Lib.hid (HZ.out.keep hb)
                                                                                                                                                            replace HBW := Lib.hid (HBW.out.trans (hb.mono HBW.out.size)))
                                                                                                                                                          clear hb p0 p1 p2 p3 p4 p5 p6 q0 q1 q2 q3 q4 q5 q6 r0 r1 r2 r3 r4 r5 r6
                                                                                                                                                          (
                                                                                                                                                            obtain ⟨p0, p1, p2, p3, p4, p5, p6, -⟩ := HX.out.box.lay7
                                                                                                                                                            obtain ⟨q0, q1, q2, q3, q4, q5, q6, -⟩ := HY.out.box.lay7
                                                                                                                                                            obtain ⟨r0, r1, r2, r3, r4, r5, r6, -⟩ := HZ.out.box.lay7)))
            | (go_at_call 8; (with_reducible refine (jbefore_as OY.out OZ.out HY.out.num.rd HY.out.den.rd HZ.out.num.rd HZ.out.den.rd PS.out).mono ?_); (
                                                                                                                                                          rintro e w' ⟨rfl, hb⟩
                                                                                                                                                          (
                                                                                                                                                            replace HX := Lib.hid (HX.out.keep hb)
                                                                                                                                                            replace HY := Lib.hid (HY.out.keep hb)
                                                                                                                                                            replace HZ := Lib.hid (HZ.out.keep hb)
                                                                                                                                                            replace HBW := Lib.hid (HBW.out.trans (hb.mono HBW.out.size)))
                                                                                                                                                          clear hb p0 p1 p2 p3 p4 p5 p6 q0 q1 q2 q3 q4 q5 q6 r0 r1 r2 r3 r4 r5 r6
                                                                                                                                                          (
                                                                                                                                                            obtain ⟨p0, p1, p2, p3, p4, p5, p6, -⟩ := HX.out.box.lay7
                                                                                                                                                            obtain ⟨q0, q1, q2, q3, q4, q5, q6, -⟩ := HY.out.box.lay7
                                                                                                                                                            obtain ⟨r0, r1, r2, r3, r4, r5, r6, -⟩ := HZ.out.box.lay7)))
            | (go_at_call 8; (with_reducible refine (jbefore_as OX.out OZ.out HX.out.num.rd HX.out.den.rd HZ.out.num.rd HZ.out.den.rd PT.out).mono ?_); (
                                                                                                                                                          rintro e w' ⟨rfl, hb⟩
                                                                                                                                                          (
                                                                                                                                                            replace HX := Lib.hid (HX.out.keep hb)
                                                                                                                                                            replace HY := Lib.hid (HY.out.keep hb)
                                                                                                                                                            replace HZ := Lib.hid (HZ.out.keep hb)
                                                                                                                                                            replace HBW := Lib.hid (HBW.out.trans (hb.mono HBW.out.size)))
                                                                                                                                                          clear hb p0 p1 p2 p3 p4 p5 p6 q0 q1 q2 q3 q4 q5 q6 r0 r1 r2 r3 r4 r5 r6
                                                                                                                                                          (
                                                                                                                                                            obtain ⟨p0, p1, p2, p3, p4, p5, p6, -⟩ := HX.out.box.lay7
                                                                                                                                                            obtain ⟨q0, q1, q2, q3, q4, q5, q6, -⟩ := HY.out.box.lay7
                                                                                                                                                            obtain ⟨r0, r1, r2, r3, r4, r5, r6, -⟩ := HZ.out.box.lay7)))
            | (go_at_call 8; (with_reducible refine (jbefore_as OY.out OX.out HY.out.num.rd HY.out.den.rd HX.out.num.rd HX.out.den.rd PQ.out).mono ?_); (
                                                                                                                                                          rintro e w' ⟨rfl, hb⟩
                                                                                                                                                          (
                                                                                                                                                            replace HX := Lib.hid (HX.out.keep hb)
                                                                                                                                                            replace HY := Lib.hid (HY.out.keep hb)
                                                                                                                                                            replace HZ := Lib.hid (HZ.out.keep hb)
                                                                                                                                                            replace HBW := Lib.hid (HBW.out.trans (hb.mono HBW.out.size)))
                                                                                                                                                          clear hb p0 p1 p2 p3 p4 p5 p6 q0 q1 q2 q3 q4 q5 q6 r0 r1 r2 r3 r4 r5 r6
                                                                                                                                                          (
                                                                                                                                                            obtain ⟨p0, p1, p2, p3, p4, p5, p6, -⟩ := HX.out.box.lay7
                                                                                                                                                            obtain ⟨q0, q1, q2, q3, q4, q5, q6, -⟩ := HY.out.box.lay7
                                                                                                                                                            obtain ⟨r0, r1, r2, r3, r4, r5, r6, -⟩ := HZ.out.box.lay7))))
          go_ret
          exact ⟨rfl, HBW.out⟩)
    | false =>
      clear hpq htr
      cases q
      · (
          refine wp_region_grow (Below wc.heap.size wc) (by kernel_rfl) (by kernel_rfl) (Below.refl _ _).drew ?_
          repeat first
                   | (apply gRow_plain
                      · exact rfl
                      · intro wg hg
                        (((
                            obtain ⟨p0, p1, p2, p3, p4, p5, p6, -⟩ := (HX.out.keep hg).box.lay7
                            obtain ⟨q0, q1, q2, q3, q4, q5, q6, -⟩ := (HY.out.keep hg).box.lay7)))
                        go_simp
                        first
                          | exact rfl
                          | exact hg
                          | exact ⟨hg, rfl⟩
                          | (((
                                first
                                  | ((with_reducible refine (jbefore_as OX.out OY.out (HX.out.keep hg).num.rd (HX.out.keep hg).den.rd (HY.out.keep hg).num.rd (HY.out.keep hg).den.rd PP.out).mono ?_); rintro e w' ⟨rfl, hb⟩; exact ⟨rfl, hg.trans (hb.mono hg.size)⟩)
                                  | ((with_reducible refine (rbefore_as OX.out OY.out (HX.out.keep hg).num.rd (HX.out.keep hg).den.rd (HY.out.keep hg).num.rd (HY.out.keep hg).den.rd PP.out).mono ?_); rintro e w' ⟨rfl, hb⟩; exact ⟨rfl, hg.trans (hb.mono hg.size)⟩)
                                  | ((with_reducible refine (jbefore_as OY.out OX.out (HY.out.keep hg).num.rd (HY.out.keep hg).den.rd (HX.out.keep hg).num.rd (HX.out.keep hg).den.rd PQ.out).mono ?_); rintro e w' ⟨rfl, hb⟩; exact ⟨rfl, hg.trans (hb.mono hg.size)⟩)
                                  | ((with_reducible refine (rkey_as ⟨x1, x2, x3, x4, xn, xd⟩ _ _ _ _ _ _ _).mono ?_); rintro e w' ⟨rfl, hb⟩; exact ⟨rfl, hg.trans (hb.mono hg.size)⟩)
                                  | ((with_reducible refine (rkey_as ⟨y1, y2, y3, y4, yn, yd⟩ _ _ _ _ _ _ _).mono ?_); rintro e w' ⟨rfl, hb⟩; exact ⟨rfl, hg.trans (hb.mono hg.size)⟩))))
                      intro K hK
                      go_simp
                      refine hK _ ?_
                      clear hK K)
                   | (apply gRow_step
                      · go_simp; done
                      · intro wg hg
                        (((
                            obtain ⟨p0, p1, p2, p3, p4, p5, p6, -⟩ := (HX.out.keep hg).box.lay7
                            obtain ⟨q0, q1, q2, q3, q4, q5, q6, -⟩ := (HY.out.keep hg).box.lay7)))
                        go_simp
                        first
                          | exact rfl
                          | exact hg
                          | exact ⟨hg, rfl⟩
                          | (((
                                first
                                  | ((with_reducible refine (jbefore_as OX.out OY.out (HX.out.keep hg).num.rd (HX.out.keep hg).den.rd (HY.out.keep hg).num.rd (HY.out.keep hg).den.rd PP.out).mono ?_); rintro e w' ⟨rfl, hb⟩; exact ⟨rfl, hg.trans (hb.mono hg.size)⟩)
                                  | ((with_reducible refine (rbefore_as OX.out OY.out (HX.out.keep hg).num.rd (HX.out.keep hg).den.rd (HY.out.keep hg).num.rd (HY.out.keep hg).den.rd PP.out).mono ?_); rintro e w' ⟨rfl, hb⟩; exact ⟨rfl, hg.trans (hb.mono hg.size)⟩)
                                  | ((with_reducible refine (jbefore_as OY.out OX.out (HY.out.keep hg).num.rd (HY.out.keep hg).den.rd (HX.out.keep hg).num.rd (HX.out.keep hg).den.rd PQ.out).mono ?_); rintro e w' ⟨rfl, hb⟩; exact ⟨rfl, hg.trans (hb.mono hg.size)⟩)
                                  | ((with_reducible refine (rkey_as ⟨x1, x2, x3, x4, xn, xd⟩ _ _ _ _ _ _ _).mono ?_); rintro e w' ⟨rfl, hb⟩; exact ⟨rfl, hg.trans (hb.mono hg.size)⟩)
                                  | ((with_reducible refine (rkey_as ⟨y1, y2, y3, y4, yn, yd⟩ _ _ _ _ _ _ _).mono ?_); rintro e w' ⟨rfl, hb⟩; exact ⟨rfl, hg.trans (hb.mono hg.size)⟩))))
                      intro K hK
                      go_simp
                      refine hK _ ?_
                      clear hK K)
                   | (apply gRow_not
                      · go_simp; done
                      intro K hK
                      go_simp
                      refine hK _ ?_
                      clear hK K)
          refine gRow_nil ?_
          intro wd hb
          (
            replace HX := Lib.hid (HX.out.keep hb)
            replace HY := Lib.hid (HY.out.keep hb)
            replace HZ := Lib.hid (HZ.out.keep hb)
            replace HBW := Lib.hid (HBW.out.trans (hb.mono HBW.out.size)))
          clear hb
          go_wp2_with fail
          refine wp_region_grow (Below wd.heap.size wd) (by kernel_rfl) (by kernel_rfl) (Below.refl _ _).drew ?_
          repeat first
                   | (apply gRow_plain
                      · exact rfl
                      · intro wg hg
                        (((
                            obtain ⟨p0, p1, p2, p3, p4, p5, p6, -⟩ := (HX.out.keep hg).box.lay7
                            obtain ⟨q0, q1, q2, q3, q4, q5, q6, -⟩ := (HY.out.keep hg).box.lay7)))
                        go_simp
                        first
                          | exact rfl
                          | exact hg
                          | exact ⟨hg, rfl⟩
                          | (((
                                first
                                  | ((with_reducible refine (jbefore_as OX.out OY.out (HX.out.keep hg).num.rd (HX.out.keep hg).den.rd (HY.out.keep hg).num.rd (HY.out.keep hg).den.rd PP.out).mono ?_); rintro e w' ⟨rfl, hb⟩; exact ⟨rfl, hg.trans (hb.mono hg.size)⟩)
                                  | ((with_reducible refine (rbefore_as OX.out OY.out (HX.out.keep hg).num.rd (HX.out.keep hg).den.rd (HY.out.keep hg).num.rd (HY.out.keep hg).den.rd PP.out).mono ?_); rintro e w' ⟨rfl, hb⟩; exact ⟨rfl, hg.trans (hb.mono hg.size)⟩)
                                  | ((with_reducible refine (jbefore_as OY.out OX.out (HY.out.keep hg).num.rd (HY.out.keep hg).den.rd (HX.out.keep hg).num.rd (HX.out.keep hg).den.rd PQ.out).mono ?_); rintro e w' ⟨rfl, hb⟩; exact ⟨rfl, hg.trans (hb.mono hg.size)⟩)
                                  | ((with_reducible refine (rkey_as ⟨x1, x2, x3, x4, xn, xd⟩ _ _ _ _ _ _ _).mono ?_); rintro e w' ⟨rfl, hb⟩; exact ⟨rfl, hg.trans (hb.mono hg.size)⟩)
                                  | ((with_reducible refine (rkey_as ⟨y1, y2, y3, y4, yn, yd⟩ _ _ _ _ _ _ _).mono ?_); rintro e w' ⟨rfl, hb⟩; exact ⟨rfl, hg.trans (hb.mono hg.size)⟩))))
                      intro K hK
                      go_simp
                      refine hK _ ?_
                      clear hK K)
                   | (apply gRow_step
                      · go_simp; done
                      · intro wg hg
                        (((
                            obtain ⟨p0, p1, p2, p3, p4, p5, p6, -⟩ := (HX.out.keep hg).box.lay7
                            obtain ⟨q0, q1, q2, q3, q4, q5, q6, -⟩ := (HY.out.keep hg).box.lay7)))
                        go_simp
                        first
                          | exact rfl
                          | exact hg
                          | exact ⟨hg, rfl⟩
                          | (((
                                first
                                  | ((with_reducible refine (jbefore_as OX.out OY.out (HX.out.keep hg).num.rd (HX.out.keep hg).den.rd (HY.out.keep hg).num.rd (HY.out.keep hg).den.rd PP.out).mono ?_); rintro e w' ⟨rfl, hb⟩; exact ⟨rfl, hg.trans (hb.mono hg.size)⟩)
                                  | ((with_reducible refine (rbefore_as OX.out OY.out (HX.out.keep hg).num.rd (HX.out.keep hg).den.rd (HY.out.keep hg).num.rd (HY.out.keep hg).den.rd PP.out).mono ?_); rintro e w' ⟨rfl, hb⟩; exact ⟨rfl, hg.trans (hb.mono hg.size)⟩)
                                  | ((with_reducible refine (jbefore_as OY.out OX.out (HY.out.keep hg).num.rd (HY.out.keep hg).den.rd (HX.out.keep hg).num.rd (HX.out.keep hg).den.rd PQ.out).mono ?_); rintro e w' ⟨rfl, hb⟩; exact ⟨rfl, hg.trans (hb.mono hg.size)⟩)
                                  | ((with_reducible refine (rkey_as ⟨x1, x2, x3, x4, xn, xd⟩ _ _ _ _ _ _ _).mono ?_); rintro e w' ⟨rfl, hb⟩; exact ⟨rfl, hg.trans (hb.mono hg.size)⟩)
                                  | ((with_reducible refine (rkey_as ⟨y1, y2, y3, y4, yn, yd⟩ _ _ _ _ _ _ _).mono ?_); rintro e w' ⟨rfl, hb⟩; exact ⟨rfl, hg.trans (hb.mono hg.size)⟩))))
                      intro K hK
                      go_simp
                      refine hK _ ?_
                      clear hK K)
                   | (apply gRow_not
                      · go_simp; done
                      intro K hK
                      go_simp
                      refine hK _ ?_
                      clear hK K)
          refine gRow_nil ?_
          intro we hb
          (
            replace HX := Lib.hid (HX.out.keep hb)
            replace HY := Lib.hid (HY.out.keep hb)
            replace HZ := Lib.hid (HZ.out.keep hb)
            replace HBW := Lib.hid (HBW.out.trans (hb.mono HBW.out.size)))
          clear hb
          (
            obtain ⟨p0, p1, p2, p3, p4, p5, p6, -⟩ := HX.out.box.lay7
            obtain ⟨q0, q1, q2, q3, q4, q5, q6, -⟩ := HY.out.box.lay7
            obtain ⟨r0, r1, r2, r3, r4, r5, r6, -⟩ := HZ.out.box.lay7)
          go_wp2_with (first
            | (go_at_call 11; (with_reducible refine (awake_any _).mono ?_); (
                                                                               rintro e w' ⟨rfl, hb⟩
                                                                               (
                                                                                 replace HX := Lib.hid (HX.out.keep hb)
                                                                                 replace HY := Lib.hid (HY.out.keep hb)
                                                                                 replace HZ := Lib.hid (HZ.out.keep hb)
                                                                                 replace HBW := Lib.hid (HBW.out.trans (hb.mono HBW.out.size)))
                                                                               clear hb p0 p1 p2 p3 p4 p5 p6 q0 q1 q2 q3 q4 q5 q6 r0 r1 r2 r3 r4 r5 r6
                                                                               (
                                                                                 obtain ⟨p0, p1, p2, p3, p4, p5, p6, -⟩ := HX.out.box.lay7
                                                                                 obtain ⟨q0, q1, q2, q3, q4, q5, q6, -⟩ := HY.out.box.lay7
                                                                                 obtain ⟨r0, r1, r2, r3, r4, r5, r6, -⟩ := HZ.out.box.lay7)))
            | (go_at_call 8; (with_reducible refine (jbefore_as OX.out OY.out HX.out.num.rd HX.out.den.rd HY.out.num.rd HY.out.den.rd PP.out).mono ?_); (
                                                                                                                                                          rintro e w' ⟨rfl, hb⟩
                                                                                                                                                          (
                                                                                                                                                            replace HX := Lib.hid (HX.out.keep hb)
                                                                                                                                                            replace HY := Lib.hid (HY.out.keep hb)
                                                                                                                                                            replace HZ := Lib.hid (HZ.out.keep hb)
                                                                                                                                                            replace HBW := Lib.hid (HBW.out.trans (hb.mono HBW.out.size)))
                                                                                                                                                          clear hb p0 p1 p2 p3 p4 p5 p6 q0 q1 q2 q3 q4 q5 q6 r0 r1 r2 r3 r4 r5 r6
                                                                                                                                                          (
                                                                                                                                                            obtain ⟨p0, p1, p2, p3, p4, p5, p6, -⟩ := HX.out.box.lay7
                                                                                                                                                            obtain ⟨q0, q1, q2, q3, q4, q5, q6, -⟩ := HY.out.box.lay7
                                                                                                                                                            obtain ⟨r0, r1, r2, r3, r4, r5, r6, -⟩ := HZ.out.box.lay7)))
            | (go_at_call 8; (with_reducible refine (jbefore_as OY.out OZ.out HY.out.num.rd HY.out.den.rd HZ.out.num.rd HZ.out.den.rd PS.out).mono ?_); (
                                                                                                                                                          rintro e w' ⟨rfl, hb⟩
                                                                                                                                                          (
                                                                                                                                                            replace HX := Lib.hid (HX.out.keep hb)
                                                                                                                                                            replace HY := Lib.hid (HY.out.keep hb)
                                                                                                                                                            replace HZ := Lib.hid (HZ.out.keep hb)
                                                                                                                                                            replace HBW := Lib.hid (HBW.out.trans (hb.mono HBW.out.size)))
                                                                                                                                                          clear hb p0 p1 p2 p3 p4 p5 p6 q0 q1 q2 q3 q4 q5 q6 r0 r1 r2 r3 r4 r5 r6
                                                                                                                                                          (
                                                                                                                                                            obtain ⟨p0, p1, p2, p3, p4, p5, p6, -⟩ := HX.out.box.lay7
                                                                                                                                                            obtain ⟨q0, q1, q2, q3, q4, q5, q6, -⟩ := HY.out.box.lay7
                                                                                                                                                            obtain ⟨r0, r1, r2, r3, r4, r5, r6, -⟩ := HZ.out.box.lay7)))
            | (go_at_call 8; (with_reducible refine (jbefore_as OX.out OZ.out HX.out.num.rd HX.out.den.rd HZ.out.num.rd HZ.out.den.rd PT.out).mono ?_); (
                                                                                                                                                          rintro e w' ⟨rfl, hb⟩
                                                                                                                                                          (
                                                                                                                                                            replace HX := Lib.hid (HX.out.keep hb)
                                                                                                                                                            replace HY := Lib.hid (HY.out.keep hb)
                                                                                                                                                            replace HZ := Lib.hid (HZ.out.keep hb)
                                                                                                                                                            replace HBW := Lib.hid (HBW.out.trans (hb.mono HBW.out.size)))
                                                                                                                                                          clear hb p0 p1 p2 p3 p4 p5 p6 q0 q1 q2 q3 q4 q5 q6 r0 r1 r2 r3 r4 r5 r6
                                                                                                                                                          (
                                                                                                                                                            obtain ⟨p0, p1, p2, p3, p4, p5, p6, -⟩ := HX.out.box.lay7
                                                                                                                                                            obtain ⟨q0, q1, q2, q3, q4, q5, q6, -⟩ := HY.out.box.lay7
                                                                                                                                                            obtain ⟨r0, r1, r2, r3, r4, r5, r6, -⟩ := HZ.out.box.lay7)))
            | (go_at_call 8; (with_reducible refine (jbefore_as OY.out OX.out HY.out.num.rd HY.out.den.rd HX.out.num.rd HX.out.den.rd PQ.out).mono ?_); (
                                                                                                                                                          rintro e w' ⟨rfl, hb⟩
                                                                                                                                                          (
                                                                                                                                                            replace HX := Lib.hid (HX.out.keep hb)
                                                                                                                                                            replace HY := Lib.hid (HY.out.keep hb)
                                                                                                                                                            replace HZ := Lib.hid (HZ.out.keep hb)
                                                                                                                                                            replace HBW := Lib.hid (HBW.out.trans (hb.mono HBW.out.size)))
                                                                                                                                                          clear hb p0 p1 p2 p3 p4 p5 p6 q0 q1 q2 q3 q4 q5 q6 r0 r1 r2 r3 r4 r5 r6
                                                                                                                                                          (
                                                                                                                                                            obtain ⟨p0, p1, p2, p3, p4, p5, p6, -⟩ := HX.out.box.lay7
                                                                                                                                                            obtain ⟨q0, q1, q2, q3, q4, q5, q6, -⟩ := HY.out.box.lay7
                                                                                                                                                            obtain ⟨r0, r1, r2, r3, r4, r5, r6, -⟩ := HZ.out.box.lay7))))
          go_ret
          exact ⟨rfl, HBW.out⟩)
      · (
          refine wp_region_grow (Below wc.heap.size wc) (by kernel_rfl) (by kernel_rfl) (Below.refl _ _).drew ?_
          repeat first
                   | (apply gRow_plain
                      · exact rfl
                      · intro wg hg
                        (((
                            obtain ⟨p0, p1, p2, p3, p4, p5, p6, -⟩ := (HX.out.keep hg).box.lay7
                            obtain ⟨q0, q1, q2, q3, q4, q5, q6, -⟩ := (HY.out.keep hg).box.lay7)))
                        go_simp
                        first
                          | exact rfl
                          | exact hg
                          | exact ⟨hg, rfl⟩
                          | (((
                                first
                                  | ((with_reducible refine (jbefore_as OX.out OY.out (HX.out.keep hg).num.rd (HX.out.keep hg).den.rd (HY.out.keep hg).num.rd (HY.out.keep hg).den.rd PP.out).mono ?_); rintro e w' ⟨rfl, hb⟩; exact ⟨rfl, hg.trans (hb.mono hg.size)⟩)
                                  | ((with_reducible refine (rbefore_as OX.out OY.out (HX.out.keep hg).num.rd (HX.out.keep hg).den.rd (HY.out.keep hg).num.rd (HY.out.keep hg).den.rd PP.out).mono ?_); rintro e w' ⟨rfl, hb⟩; exact ⟨rfl, hg.trans (hb.mono hg.size)⟩)
                                  | ((with_reducible refine (jbefore_as OY.out OX.out (HY.out.keep hg).num.rd (HY.out.keep hg).den.rd (HX.out.keep hg).num.rd (HX.out.keep hg).den.rd PQ.out).mono ?_); rintro e w' ⟨rfl, hb⟩; exact ⟨rfl, hg.trans (hb.mono hg.size)⟩)
                                  | ((with_reducible refine (rkey_as ⟨x1, x2, x3, x4, xn, xd⟩ _ _ _ _ _ _ _).mono ?_); rintro e w' ⟨rfl, hb⟩; exact ⟨rfl, hg.trans (hb.mono hg.size)⟩)
                                  | ((with_reducible refine (rkey_as ⟨y1, y2, y3, y4, yn, yd⟩ _ _ _ _ _ _ _).mono ?_); rintro e w' ⟨rfl, hb⟩; exact ⟨rfl, hg.trans (hb.mono hg.size)⟩))))
                      intro K hK
                      go_simp
                      refine hK _ ?_
                      clear hK K)
                   | (apply gRow_step
                      · go_simp; done
                      · intro wg hg
                        (((
                            obtain ⟨p0, p1, p2, p3, p4, p5, p6, -⟩ := (HX.out.keep hg).box.lay7
                            obtain ⟨q0, q1, q2, q3, q4, q5, q6, -⟩ := (HY.out.keep hg).box.lay7)))
                        go_simp
                        first
                          | exact rfl
                          | exact hg
                          | exact ⟨hg, rfl⟩
                          | (((
                                first
                                  | ((with_reducible refine (jbefore_as OX.out OY.out (HX.out.keep hg).num.rd (HX.out.keep hg).den.rd (HY.out.keep hg).num.rd (HY.out.keep hg).den.rd PP.out).mono ?_); rintro e w' ⟨rfl, hb⟩; exact ⟨rfl, hg.trans (hb.mono hg.size)⟩)
                                  | ((with_reducible refine (rbefore_as OX.out OY.out (HX.out.keep hg).num.rd (HX.out.keep hg).den.rd (HY.out.keep hg).num.rd (HY.out.keep hg).den.rd PP.out).mono ?_); rintro e w' ⟨rfl, hb⟩; exact ⟨rfl, hg.trans (hb.mono hg.size)⟩)
                                  | ((with_reducible refine (jbefore_as OY.out OX.out (HY.out.keep hg).num.rd (HY.out.keep hg).den.rd (HX.out.keep hg).num.rd (HX.out.keep hg).den.rd PQ.out).mono ?_); rintro e w' ⟨rfl, hb⟩; exact ⟨rfl, hg.trans (hb.mono hg.size)⟩)
                                  | ((with_reducible refine (rkey_as ⟨x1, x2, x3, x4, xn, xd⟩ _ _ _ _ _ _ _).mono ?_); rintro e w' ⟨rfl, hb⟩; exact ⟨rfl, hg.trans (hb.mono hg.size)⟩)
                                  | ((with_reducible refine (rkey_as ⟨y1, y2, y3, y4, yn, yd⟩ _ _ _ _ _ _ _).mono ?_); rintro e w' ⟨rfl, hb⟩; exact ⟨rfl, hg.trans (hb.mono hg.size)⟩))))
                      intro K hK
                      go_simp
                      refine hK _ ?_
                      clear hK K)
                   | (apply gRow_not
                      · go_simp; done
                      intro K hK
                      go_simp
                      refine hK _ ?_
                      clear hK K)
          refine gRow_nil ?_
          intro wd hb
          (
            replace HX := Lib.hid (HX.out.keep hb)
            replace HY := Lib.hid (HY.out.keep hb)
            replace HZ := Lib.hid (HZ.out.keep hb)
            replace HBW := Lib.hid (HBW.out.trans (hb.mono HBW.out.size)))
          clear hb
          go_wp2_with fail
          refine wp_region_grow (Below wd.heap.size wd) (by kernel_rfl) (by kernel_rfl) (Below.refl _ _).drew ?_
          repeat first
                   | (apply gRow_plain
                      · exact rfl
                      · intro wg hg
                        (((
                            obtain ⟨p0, p1, p2, p3, p4, p5, p6, -⟩ := (HX.out.keep hg).box.lay7
                            obtain ⟨q0, q1, q2, q3, q4, q5, q6, -⟩ := (HY.out.keep hg).box.lay7)))
                        go_simp
                        first
                          | exact rfl
                          | exact hg
                          | exact ⟨hg, rfl⟩
                          | (((
                                first
                                  | ((with_reducible refine (jbefore_as OX.out OY.out (HX.out.keep hg).num.rd (HX.out.keep hg).den.rd (HY.out.keep hg).num.rd (HY.out.keep hg).den.rd PP.out).mono ?_); rintro e w' ⟨rfl, hb⟩; exact ⟨rfl, hg.trans (hb.mono hg.size)⟩)
                                  | ((with_reducible refine (rbefore_as OX.out OY.out (HX.out.keep hg).num.rd (HX.out.keep hg).den.rd (HY.out.keep hg).num.rd (HY.out.keep hg).den.rd PP.out).mono ?_); rintro e w' ⟨rfl, hb⟩; exact ⟨rfl, hg.trans (hb.mono hg.size)⟩)
                                  | ((with_reducible refine (jbefore_as OY.out OX.out (HY.out.keep hg).num.rd (HY.out.keep hg).den.rd (HX.out.keep hg).num.rd (HX.out.keep hg).den.rd PQ.out).mono ?_); rintro e w' ⟨rfl, hb⟩; exact ⟨rfl, hg.trans (hb.mono hg.size)⟩)
                                  | ((with_reducible refine (rkey_as ⟨x1, x2, x3, x4, xn, xd⟩ _ _ _ _ _ _ _).mono ?_); rintro e w' ⟨rfl, hb⟩; exact ⟨rfl, hg.trans (hb.mono hg.size)⟩)
                                  | ((with_reducible refine (rkey_as ⟨y1, y2, y3, y4, yn, yd⟩ _ _ _ _ _ _ _).mono ?_); rintro e w' ⟨rfl, hb⟩; exact ⟨rfl, hg.trans (hb.mono hg.size)⟩))))
                      intro K hK
                      go_simp
                      refine hK _ ?_
                      clear hK K)
                   | (apply gRow_step
                      · go_simp; done
                      · intro wg hg
                        (((
                            obtain ⟨p0, p1, p2, p3, p4, p5, p6, -⟩ := (HX.out.keep hg).box.lay7
                            obtain ⟨q0, q1, q2, q3, q4, q5, q6, -⟩ := (HY.out.keep hg).box.lay7)))
                        go_simp
                        first
                          | exact rfl
                          | exact hg
                          | exact ⟨hg, rfl⟩
                          | (((
                                first
                                  | ((with_reducible refine (jbefore_as OX.out OY.out (HX.out.keep hg).num.rd (HX.out.keep hg).den.rd (HY.out.keep hg).num.rd (HY.out.keep hg).den.rd PP.out).mono ?_); rintro e w' ⟨rfl, hb⟩; exact ⟨rfl, hg.trans (hb.mono hg.size)⟩)
                                  | ((with_reducible refine (rbefore_as OX.out OY.out (HX.out.keep hg).num.rd (HX.out.keep hg).den.rd (HY.out.keep hg).num.rd (HY.out.keep hg).den.rd PP.out).mono ?_); rintro e w' ⟨rfl, hb⟩; exact ⟨rfl, hg.trans (hb.mono hg.size)⟩)
                                  | ((with_reducible refine (jbefore_as OY.out OX.out (HY.out.keep hg).num.rd (HY.out.keep hg).den.rd (HX.out.keep hg).num.rd (HX.out.keep hg).den.rd PQ.out).mono ?_); rintro e w' ⟨rfl, hb⟩; exact ⟨rfl, hg.trans (hb.mono hg.size)⟩)
                                  | ((with_reducible refine (rkey_as ⟨x1, x2, x3, x4, xn, xd⟩ _ _ _ _ _ _ _).mono ?_); rintro e w' ⟨rfl, hb⟩; exact ⟨rfl, hg.trans (hb.mono hg.size)⟩)
                                  | ((with_reducible refine (rkey_as ⟨y1, y2, y3, y4, yn, yd⟩ _ _ _ _ _ _ _).mono ?_); rintro e w' ⟨rfl, hb⟩; exact ⟨rfl, hg.trans (hb.mono hg.size)⟩))))
                      intro K hK
                      go_simp
                      refine hK _ ?_
                      clear hK K)
                   | (apply gRow_not
                      · go_simp; done
                      intro K hK
                      go_simp
                      refine hK _ ?_
                      clear hK K)
          refine gRow_nil ?_
          intro we hb
          (
            replace HX := Lib.hid (HX.out.keep hb)
            replace HY := Lib.hid (HY.out.keep hb)
            replace HZ := Lib.hid (HZ.out.keep hb)
            replace HBW := Lib.hid (HBW.out.trans (hb.mono HBW.out.size)))
          clear hb
          (
            obtain ⟨p0, p1, p2, p3, p4, p5, p6, -⟩ := HX.out.box.lay7
            obtain ⟨q0, q1, q2, q3, q4, q5, q6, -⟩ := HY.out.box.lay7
            obtain ⟨r0, r1, r2, r3, r4, r5, r6, -⟩ := HZ.out.box.lay7)
          go_wp2_with (first
            | (go_at_call 11; (with_reducible refine (awake_any _).mono ?_); (
                                                                               rintro e w' ⟨rfl, hb⟩
                                                                               (
                                                                                 replace HX := Lib.hid (HX.out.keep hb)
                                                                                 replace HY := Lib.hid (HY.out.keep hb)
                                                                                 replace HZ := Lib.hid (HZ.out.keep hb)
                                                                                 replace HBW := Lib.hid (HBW.out.trans (hb.mono HBW.out.size)))
                                                                               clear hb p0 p1 p2 p3 p4 p5 p6 q0 q1 q2 q3 q4 q5 q6 r0 r1 r2 r3 r4 r5 r6
                                                                               (
                                                                                 obtain ⟨p0, p1, p2, p3, p4, p5, p6, -⟩ := HX.out.box.lay7
                                                                                 obtain ⟨q0, q1, q2, q3, q4, q5, q6, -⟩ := HY.out.box.lay7
                                                                                 obtain ⟨r0, r1, r2, r3, r4, r5, r6, -⟩ := HZ.out.box.lay7)))
            | (go_at_call 8; (with_reducible refine (jbefore_as OX.out OY.out HX.out.num.rd HX.out.den.rd HY.out.num.rd HY.out.den.rd PP.out).mono ?_); (
                                                                                                                                                          rintro e w' ⟨rfl, hb⟩
                                                                                                                                                          (
                                                                                                                                                            replace HX := Lib.hid (HX.out.keep hb)
                                                                                                                                                            replace HY := Lib.hid (HY.out.keep hb)
                                                                                                                                                            replace HZ := Lib.hid (HZ.out.keep hb)
                                                                                                                                                            replace HBW := Lib.hid (HBW.out.trans (hb.mono HBW.out.size)))
                                                                                                                                                          clear hb p0 p1 p2 p3 p4 p5 p6 q0 q1 q2 q3 q4 q5 q6 r0 r1 r2 r3 r4 r5 r6
                                                                                                                                                          (
                                                                                                                                                            obtain ⟨p0, p1, p2, p3, p4, p5, p6, -⟩ := HX.out.box.lay7
                                                                                                                                                            obtain ⟨q0, q1, q2, q3, q4, q5, q6, -⟩ := HY.out.box.lay7
                                                                                                                                                            obtain ⟨r0, r1, r2, r3, r4, r5, r6, -⟩ := HZ.out.box.lay7)))
            | (go_at_call 8; (with_reducible refine (jbefore_as OY.out OZ.out HY.out.num.rd HY.out.den.rd HZ.out.num.rd HZ.out.den.rd PS.out).mono ?_); (
                                                                                                                                                          rintro e w' ⟨rfl, hb⟩
                                                                                                                                                          (
                                                                                                                                                            replace HX := Lib.hid (HX.out.keep hb)
                                                                                                                                                            replace HY := Lib.hid (HY.out.keep hb)
                                                                                                                                                            replace HZ := Lib.hid (HZ.out.keep hb)
                                                                                                                                                            replace HBW := Lib.hid (HBW.out.trans (hb.mono HBW.out.size)))
                                                                                                                                                          clear hb p0 p1 p2 p3 p4 p5 p6 q0 q1 q2 q3 q4 q5 q6 r0 r1 r2 r3 r4 r5 r6
                                                                                                                                                          (
                                                                                                                                                            obtain ⟨p0, p1, p2, p3, p4, p5, p6, -⟩ := HX.out.box.lay7
                                                                                                                                                            obtain ⟨q0, q1, q2, q3, q4, q5, q6, -⟩ := HY.out.box.lay7
                                                                                                                                                            obtain ⟨r0, r1, r2, r3, r4, r5, r6, -⟩ := HZ.out.box.lay7)))
            | (go_at_call 8; (with_reducible refine (jbefore_as OX.out OZ.out HX.out.num.rd HX.out.den.rd HZ.out.num.rd HZ.out.den.rd PT.out).mono ?_); (
                                                                                                                                                          rintro e w' ⟨rfl, hb⟩
                                                                                                                                                          (
                                                                                                                                                            replace HX := Lib.hid (HX.out.keep hb)
                                                                                                                                                            replace HY := Lib.hid (HY.out.keep hb)
                                                                                                                                                            replace HZ := Lib.hid (HZ.out.keep hb)
                                                                                                                                                            replace HBW := Lib.hid (HBW.out.trans (hb.mono HBW.out.size)))
                                                                                                                                                          clear hb p0 p1 p2 p3 p4 p5 p6 q0 q1 q2 q3 q4 q5 q6 r0 r1 r2 r3 r4 r5 r6
                                                                                                                                                          (
                                                                                                                                                            obtain ⟨p0, p1, p2, p3, p4, p5, p6, -⟩ := HX.out.box.lay7
                                                                                                                                                            obtain ⟨q0, q1, q2, q3, q4, q5, q6, -⟩ := HY.out.box.lay7
                                                                                                                                                            obtain ⟨r0, r1, r2, r3, r4, r5, r6, -⟩ := HZ.out.box.lay7)))
            | (go_at_call 8; (with_reducible refine (jbefore_as OY.out OX.out HY.out.num.rd HY.out.den.rd HX.out.num.rd HX.out.den.rd PQ.out).mono ?_); (
                                                                                                                                                          rintro e w' ⟨rfl, hb⟩
                                                                                                                                                          (
                                                                                                                                                            replace HX := Lib.hid (HX.out.keep hb)
                                                                                                                                                            replace HY := Lib.hid (HY.out.keep hb)
                                                                                                                                                            replace HZ := Lib.hid (HZ.out.keep hb)
                                                                                                                                                            replace HBW := Lib.hid (HBW.out.trans (hb.mono HBW.out.size)))
                                                                                                                                                          clear hb p0 p1 p2 p3 p4 p5 p6 q0 q1 q2 q3 q4 q5 q6 r0 r1 r2 r3 r4 r5 r6
                                                                                                                                                          (
                                                                                                                                                            obtain ⟨p0, p1, p2, p3, p4, p5, p6, -⟩ := HX.out.box.lay7
                                                                                                                                                            obtain ⟨q0, q1, q2, q3, q4, q5, q6, -⟩ := HY.out.box.lay7
                                                                                                                                                            obtain ⟨r0, r1, r2, r3, r4, r5, r6, -⟩ := HZ.out.box.lay7))))
          go_ret
          exact ⟨rfl, HBW.out⟩)
  · have hkd : ∀ w, (binOp .neq 33 (.agg #[.int .i64 x1, .int .i64 x2]) (.agg #[.int .i64 y1, .int .i64 y2])).run Tryz.prog w = .ok (.bool true) w := fun w => (neq_kv2 (x1, x2) (y1, y2) w).trans (by rw [decide_eq_false hk]; rfl)
    cases p with
    | true =>
      obtain rfl := hpq rfl
      cases s with
      | true =>
        obtain rfl := htr rfl rfl
        clear hpq htr hto hk
        (
          refine wp_region_grow (Below wc.heap.size wc) (by kernel_rfl) (by kernel_rfl) (Below.refl _ _).drew ?_
          repeat first
                   | (apply gRow_plain
                      · exact rfl
                      · intro wg hg
                        (((
                            obtain ⟨p0, p1, p2, p3, p4, p5, p6, -⟩ := (HX.out.keep hg).box.lay7
                            obtain ⟨q0, q1, q2, q3, q4, q5, q6, -⟩ := (HY.out.keep hg).box.lay7)))
                        go_simp
                        first
                          | exact rfl
                          | exact hg
                          | exact ⟨hg, rfl⟩
                          | (((
                                first
                                  | ((with_reducible refine (jbefore_as OX.out OY.out (HX.out.keep hg).num.rd (HX.out.keep hg).den.rd (HY.out.keep hg).num.rd (HY.out.keep hg).den.rd PP.out).mono ?_); rintro e w' ⟨rfl, hb⟩; exact ⟨rfl, hg.trans (hb.mono hg.size)⟩)
                                  | ((with_reducible refine (rbefore_as OX.out OY.out (HX.out.keep hg).num.rd (HX.out.keep hg).den.rd (HY.out.keep hg).num.rd (HY.out.keep hg).den.rd PP.out).mono ?_); rintro e w' ⟨rfl, hb⟩; exact ⟨rfl, hg.trans (hb.mono hg.size)⟩)
                                  | ((with_reducible refine (jbefore_as OY.out OX.out (HY.out.keep hg).num.rd (HY.out.keep hg).den.rd (HX.out.keep hg).num.rd (HX.out.keep hg).den.rd PQ.out).mono ?_); rintro e w' ⟨rfl, hb⟩; exact ⟨rfl, hg.trans (hb.mono hg.size)⟩)
                                  | ((with_reducible refine (rkey_as ⟨x1, x2, x3, x4, xn, xd⟩ _ _ _ _ _ _ _).mono ?_); rintro e w' ⟨rfl, hb⟩; exact ⟨rfl, hg.trans (hb.mono hg.size)⟩)
                                  | ((with_reducible refine (rkey_as ⟨y1, y2, y3, y4, yn, yd⟩ _ _ _ _ _ _ _).mono ?_); rintro e w' ⟨rfl, hb⟩; exact ⟨rfl, hg.trans (hb.mono hg.size)⟩))))
                      intro K hK
                      go_simp
                      refine hK _ ?_
                      clear hK K)
                   | (apply gRow_step
                      · go_simp; done
                      · intro wg hg
                        (((
                            obtain ⟨p0, p1, p2, p3, p4, p5, p6, -⟩ := (HX.out.keep hg).box.lay7
                            obtain ⟨q0, q1, q2, q3, q4, q5, q6, -⟩ := (HY.out.keep hg).box.lay7)))
                        go_simp
                        first
                          | exact rfl
                          | exact hg
                          | exact ⟨hg, rfl⟩
                          | (((
                                first
                                  | ((with_reducible refine (jbefore_as OX.out OY.out (HX.out.keep hg).num.rd (HX.out.keep hg).den.rd (HY.out.keep hg).num.rd (HY.out.keep hg).den.rd PP.out).mono ?_); rintro e w' ⟨rfl, hb⟩; exact ⟨rfl, hg.trans (hb.mono hg.size)⟩)
                                  | ((with_reducible refine (rbefore_as OX.out OY.out (HX.out.keep hg).num.rd (HX.out.keep hg).den.rd (HY.out.keep hg).num.rd (HY.out.keep hg).den.rd PP.out).mono ?_); rintro e w' ⟨rfl, hb⟩; exact ⟨rfl, hg.trans (hb.mono hg.size)⟩)
                                  | ((with_reducible refine (jbefore_as OY.out OX.out (HY.out.keep hg).num.rd (HY.out.keep hg).den.rd (HX.out.keep hg).num.rd (HX.out.keep hg).den.rd PQ.out).mono ?_); rintro e w' ⟨rfl, hb⟩; exact ⟨rfl, hg.trans (hb.mono hg.size)⟩)
                                  | ((with_reducible refine (rkey_as ⟨x1, x2, x3, x4, xn, xd⟩ _ _ _ _ _ _ _).mono ?_); rintro e w' ⟨rfl, hb⟩; exact ⟨rfl, hg.trans (hb.mono hg.size)⟩)
                                  | ((with_reducible refine (rkey_as ⟨y1, y2, y3, y4, yn, yd⟩ _ _ _ _ _ _ _).mono ?_); rintro e w' ⟨rfl, hb⟩; exact ⟨rfl, hg.trans (hb.mono hg.size)⟩))))
                      intro K hK
                      go_simp
                      refine hK _ ?_
                      clear hK K)
                   | (apply gRow_not
                      · go_simp; done
                      intro K hK
                      go_simp
                      refine hK _ ?_
                      clear hK K)
          refine gRow_nil ?_
          intro wd hb
          (
            replace HX := Lib.hid (HX.out.keep hb)
            replace HY := Lib.hid (HY.out.keep hb)
            replace HZ := Lib.hid (HZ.out.keep hb)
            replace HBW := Lib.hid (HBW.out.trans (hb.mono HBW.out.size)))
          clear hb
          go_wp2_with fail
          refine wp_region_grow (Below wd.heap.size wd) (by kernel_rfl) (by kernel_rfl) (Below.refl _ _).drew ?_
          repeat first
                   | (apply gRow_plain
                      · exact rfl
                      · intro wg hg
                        (((
                            obtain ⟨p0, p1, p2, p3, p4, p5, p6, -⟩ := (HX.out.keep hg).box.lay7
                            obtain ⟨q0, q1, q2, q3, q4, q5, q6, -⟩ := (HY.out.keep hg).box.lay7)))
                        go_simp
                        first
                          | exact rfl
                          | exact hg
                          | exact ⟨hg, rfl⟩
                          | (((
                                first
                                  | ((with_reducible refine (jbefore_as OX.out OY.out (HX.out.keep hg).num.rd (HX.out.keep hg).den.rd (HY.out.keep hg).num.rd (HY.out.keep hg).den.rd PP.out).mono ?_); rintro e w' ⟨rfl, hb⟩; exact ⟨rfl, hg.trans (hb.mono hg.size)⟩)
                                  | ((with_reducible refine (rbefore_as OX.out OY.out (HX.out.keep hg).num.rd (HX.out.keep hg).den.rd (HY.out.keep hg).num.rd (HY.out.keep hg).den.rd PP.out).mono ?_); rintro e w' ⟨rfl, hb⟩; exact ⟨rfl, hg.trans (hb.mono hg.size)⟩)
                                  | ((with_reducible refine (jbefore_as OY.out OX.out (HY.out.keep hg).num.rd (HY.out.keep hg).den.rd (HX.out.keep hg).num.rd (HX.out.keep hg).den.rd PQ.out).mono ?_); rintro e w' ⟨rfl, hb⟩; exact ⟨rfl, hg.trans (hb.mono hg.size)⟩)
                                  | ((with_reducible refine (rkey_as ⟨x1, x2, x3, x4, xn, xd⟩ _ _ _ _ _ _ _).mono ?_); rintro e w' ⟨rfl, hb⟩; exact ⟨rfl, hg.trans (hb.mono hg.size)⟩)
                                  | ((with_reducible refine (rkey_as ⟨y1, y2, y3, y4, yn, yd⟩ _ _ _ _ _ _ _).mono ?_); rintro e w' ⟨rfl, hb⟩; exact ⟨rfl, hg.trans (hb.mono hg.size)⟩))))
                      intro K hK
                      go_simp
                      refine hK _ ?_
                      clear hK K)
                   | (apply gRow_step
                      · go_simp; done
                      · intro wg hg
                        (((
                            obtain ⟨p0, p1, p2, p3, p4, p5, p6, -⟩ := (HX.out.keep hg).box.lay7
                            obtain ⟨q0, q1, q2, q3, q4, q5, q6, -⟩ := (HY.out.keep hg).box.lay7)))
                        go_simp
                        first
                          | exact rfl
                          | exact hg
                          | exact ⟨hg, rfl⟩
                          | (((
                                first
                                  | ((with_reducible refine (jbefore_as OX.out OY.out (HX.out.keep hg).num.rd (HX.out.keep hg).den.rd (HY.out.keep hg).num.rd (HY.out.keep hg).den.rd PP.out).mono ?_); rintro e w' ⟨rfl, hb⟩; exact ⟨rfl, hg.trans (hb.mono hg.size)⟩)
                                  | ((with_reducible refine (rbefore_as OX.out OY.out (HX.out.keep hg).num.rd (HX.out.keep hg).den.rd (HY.out.keep hg).num.rd (HY.out.keep hg).den.rd PP.out).mono ?_); rintro e w' ⟨rfl, hb⟩; exact ⟨rfl, hg.trans (hb.mono hg.size)⟩)
                                  | ((with_reducible refine (jbefore_as OY.out OX.out (HY.out.keep hg).num.rd (HY.out.keep hg).den.rd (HX.out.keep hg).num.rd (HX.out.keep hg).den.rd PQ.out).mono ?_); rintro e w' ⟨rfl, hb⟩; exact ⟨rfl, hg.trans (hb.mono hg.size)⟩)
                                  | ((with_reducible refine (rkey_as ⟨x1, x2, x3, x4, xn, xd⟩ _ _ _ _ _ _ _).mono ?_); rintro e w' ⟨rfl, hb⟩; exact ⟨rfl, hg.trans (hb.mono hg.size)⟩)
                                  | ((with_reducible refine (rkey_as ⟨y1, y2, y3, y4, yn, yd⟩ _ _ _ _ _ _ _).mono ?_); rintro e w' ⟨rfl, hb⟩; exact ⟨rfl, hg.trans (hb.mono hg.size)⟩))))
                      intro K hK
                      go_simp
                      refine hK _ ?_
                      clear hK K)
                   | (apply gRow_not
                      · go_simp; done
                      intro K hK
                      go_simp
                      refine hK _ ?_
                      clear hK K)
          refine gRow_nil ?_
          intro we hb
          (
            replace HX := Lib.hid (HX.out.keep hb)
            replace HY := Lib.hid (HY.out.keep hb)
            replace HZ := Lib.hid (HZ.out.keep hb)
            replace HBW := Lib.hid (HBW.out.trans (hb.mono HBW.out.size)))
          clear hb
          (
            obtain ⟨p0, p1, p2, p3, p4, p5, p6, -⟩ := HX.out.box.lay7
            obtain ⟨q0, q1, q2, q3, q4, q5, q6, -⟩ := HY.out.box.lay7
            obtain ⟨r0, r1, r2, r3, r4, r5, r6, -⟩ := HZ.out.box.lay7)
          go_wp2_with (first
            | (go_at_call 11; (with_reducible refine (awake_any _).mono ?_); (
                                                                               rintro e w' ⟨rfl, hb⟩
                                                                               (
                                                                                 replace HX := Lib.hid (HX.out.keep hb)
                                                                                 replace HY := Lib.hid (HY.out.keep hb)
                                                                                 replace HZ := Lib.hid (HZ.out.keep hb)
                                                                                 replace HBW := Lib.hid (HBW.out.trans (hb.mono HBW.out.size)))
                                                                               clear hb p0 p1 p2 p3 p4 p5 p6 q0 q1 q2 q3 q4 q5 q6 r0 r1 r2 r3 r4 r5 r6
                                                                               (
                                                                                 obtain ⟨p0, p1, p2, p3, p4, p5, p6, -⟩ := HX.out.box.lay7
                                                                                 obtain ⟨q0, q1, q2, q3, q4, q5, q6, -⟩ := HY.out.box.lay7
                                                                                 obtain ⟨r0, r1, r2, r3, r4, r5, r6, -⟩ := HZ.out.box.lay7)))
            | (go_at_call 8; (with_reducible refine (jbefore_as OX.out OY.out HX.out.num.rd HX.out.den.rd HY.out.num.rd HY.out.den.rd PP.out).mono ?_); (
                                                                                                                                                          rintro e w' ⟨rfl, hb⟩
                                                                                                                                                          (
                                                                                                                                                            replace HX := Lib.hid (HX.out.keep hb)
                                                                                                                                                            replace HY := Lib.hid (HY.out.keep hb)
                                                                                                                                                            replace HZ := Lib.hid (HZ.out.keep hb)
                                                                                                                                                            replace HBW := Lib.hid (HBW.out.trans (hb.mono HBW.out.size)))
                                                                                                                                                          clear hb p0 p1 p2 p3 p4 p5 p6 q0 q1 q2 q3 q4 q5 q6 r0 r1 r2 r3 r4 r5 r6
                                                                                                                                                          (
                                                                                                                                                            obtain ⟨p0, p1, p2, p3, p4, p5, p6, -⟩ := HX.out.box.lay7
                                                                                                                                                            obtain ⟨q0, q1, q2, q3, q4, q5, q6, -⟩ := HY.out.box.lay7
                                                                                                                                                            obtain ⟨r0, r1, r2, r3, r4, r5, r6, -⟩ := HZ.out.box.lay7)))
            | (go_at_call 8; (with_reducible refine (jbefore_as OY.out OZ.out HY.out.num.rd HY.out.den.rd HZ.out.num.rd HZ.out.den.rd PS.out).mono ?_); (
                                                                                                                                                          rintro e w' ⟨rfl, hb⟩
                                                                                                                                                          (
                                                                                                                                                            replace HX := Lib.hid (HX.out.keep hb)
                                                                                                                                                            replace HY := Lib.hid (HY.out.keep hb)
                                                                                                                                                            replace HZ := Lib.hid (HZ.out.keep hb)
                                                                                                                                                            replace HBW := Lib.hid (HBW.out.trans (hb.mono HBW.out.size)))
                                                                                                                                                          clear hb p0 p1 p2 p3 p4 p5 p6 q0 q1 q2 q3 q4 q5 q6 r0 r1 r2 r3 r4 r5 r6
                                                                                                                                                          (
                                                                                                                                                            obtain ⟨p0, p1, p2, p3, p4, p5, p6, -⟩ := HX.out.box.lay7
                                                                                                                                                            obtain ⟨q0, q1, q2, q3, q4, q5, q6, -⟩ := HY.out.box.lay7
                                                                                                                                                            obtain ⟨r0, r1, r2, r3, r4, r5, r6, -⟩ := HZ.out.box.lay7)))
            | (go_at_call 8; (with_reducible refine (jbefore_as OX.out OZ.out HX.out.num.rd HX.out.den.rd HZ.out.num.rd HZ.out.den.rd PT.out).mono ?_); (
                                                                                                                                                          rintro e w' ⟨rfl, hb⟩
                                                                                                                                                          (
                                                                                                                                                            replace HX := Lib.hid (HX.out.keep hb)
                                                                                                                                                            replace HY := Lib.hid (HY.out.keep hb)
                                                                                                                                                            replace HZ := Lib.hid (HZ.out.keep hb)
                                                                                                                                                            replace HBW := Lib.hid (HBW.out.trans (hb.mono HBW.out.size)))
                                                                                                                                                          clear hb p0 p1 p2 p3 p4 p5 p6 q0 q1 q2 q3 q4 q5 q6 r0 r1 r2 r3 r4 r5 r6
                                                                                                                                                          (
                                                                                                                                                            obtain ⟨p0, p1, p2, p3, p4, p5, p6, -⟩ := HX.out.box.lay7
                                                                                                                                                            obtain ⟨q0, q1, q2, q3, q4, q5, q6, -⟩ := HY.out.box.lay7
                                                                                                                                                            obtain ⟨r0, r1, r2, r3, r4, r5, r6, -⟩ := HZ.out.box.lay7)))
            | (go_at_call 8; (with_reducible refine (jbefore_as OY.out OX.out HY.out.num.rd HY.out.den.rd HX.out.num.rd HX.out.den.rd PQ.out).mono ?_); (
                                                                                                                                                          rintro e w' ⟨rfl, hb⟩
                                                                                                                                                          (
                                                                                                                                                            replace HX := Lib.hid (HX.out.keep hb)
                                                                                                                                                            replace HY := Lib.hid (HY.out.keep hb)
                                                                                                                                                            replace HZ := Lib.hid (HZ.out.keep hb)
                                                                                                                                                            replace HBW := Lib.hid (HBW.out.trans (hb.mono HBW.out.size)))
                                                                                                                                                          clear hb p0 p1 p2 p3 p4 p5 p6 q0 q1 q2 q3 q4 q5 q6 r0 r1 r2 r3 r4 r5 r6
                                                                                                                                                          (
                                                                                                                                                            obtain ⟨p0, p1, p2, p3, p4, p5, p6, -⟩ := HX.out.box.lay7
                                                                                                                                                            obtain ⟨q0, q1, q2, q3, q4, q5, q6, -⟩ := HY.out.box.lay7
                                                                                                                                                            obtain ⟨r0, r1, r2, r3, r4, r5, r6, -⟩ := HZ.out.box.lay7))))
          go_ret
          exact ⟨rfl, HBW.out⟩)
      | false =>
        clear hpq htr hto hk
        (
          refine wp_region_grow (Below wc.heap.size wc) (by kernel_rfl) (by kernel_rfl) (Below.refl _ _).drew ?_
          repeat first
                   | (apply gRow_plain
                      · exact rfl
                      · intro wg hg
                        (((
                            obtain ⟨p0, p1, p2, p3, p4, p5, p6, -⟩ := (HX.out.keep hg).box.lay7
                            obtain ⟨q0, q1, q2, q3, q4, q5, q6, -⟩ := (HY.out.keep hg).box.lay7)))
                        go_simp
                        first
                          | exact rfl
                          | exact hg
                          | exact ⟨hg, rfl⟩
                          | (((
                                first
                                  | ((with_reducible refine (jbefore_as OX.out OY.out (HX.out.keep hg).num.rd (HX.out.keep hg).den.rd (HY.out.keep hg).num.rd (HY.out.keep hg).den.rd PP.out).mono ?_); rintro e w' ⟨rfl, hb⟩; exact ⟨rfl, hg.trans (hb.mono hg.size)⟩)
                                  | ((with_reducible refine (rbefore_as OX.out OY.out (HX.out.keep hg).num.rd (HX.out.keep hg).den.rd (HY.out.keep hg).num.rd (HY.out.keep hg).den.rd PP.out).mono ?_); rintro e w' ⟨rfl, hb⟩; exact ⟨rfl, hg.trans (hb.mono hg.size)⟩)
                                  | ((with_reducible refine (jbefore_as OY.out OX.out (HY.out.keep hg).num.rd (HY.out.keep hg).den.rd (HX.out.keep hg).num.rd (HX.out.keep hg).den.rd PQ.out).mono ?_); rintro e w' ⟨rfl, hb⟩; exact ⟨rfl, hg.trans (hb.mono hg.size)⟩)
                                  | ((with_reducible refine (rkey_as ⟨x1, x2, x3, x4, xn, xd⟩ _ _ _ _ _ _ _).mono ?_); rintro e w' ⟨rfl, hb⟩; exact ⟨rfl, hg.trans (hb.mono hg.size)⟩)
                                  | ((with_reducible refine (rkey_as ⟨y1, y2, y3, y4, yn, yd⟩ _ _ _ _ _ _ _).mono ?_); rintro e w' ⟨rfl, hb⟩; exact ⟨rfl, hg.trans (hb.mono hg.size)⟩))))
                      intro K hK
                      go_simp
                      refine hK _ ?_
                      clear hK K)
                   | (apply gRow_step
                      · go_simp; done
                      · intro wg hg
                        (((
                            obtain ⟨p0, p1, p2, p3, p4, p5, p6, -⟩ := (HX.out.keep hg).box.lay7
                            obtain ⟨q0, q1, q2, q3, q4, q5, q6, -⟩ := (HY.out.keep hg).box.lay7)))
                        go_simp
                        first
                          | exact rfl
                          | exact hg
                          | exact ⟨hg, rfl⟩
                          | (((
                                first
                                  | ((with_reducible refine (jbefore_as OX.out OY.out (HX.out.keep hg).num.rd (HX.out.keep hg).den.rd (HY.out.keep hg).num.rd (HY.out.keep hg).den.rd PP.out).mono ?_); rintro e w' ⟨rfl, hb⟩; exact ⟨rfl, hg.trans (hb.mono hg.size)⟩)
                                  | ((with_reducible refine (rbefore_as OX.out OY.out (HX.out.keep hg).num.rd (HX.out.keep hg).den.rd (HY.out.keep hg).num.rd (HY.out.keep hg).den.rd PP.out).mono ?_); rintro e w' ⟨rfl, hb⟩; exact ⟨rfl, hg.trans (hb.mono hg.size)⟩)
                                  | ((with_reducible refine (jbefore_as OY.out OX.out (HY.out.keep hg).num.rd (HY.out.keep hg).den.rd (HX.out.keep hg).num.rd (HX.out.keep hg).den.rd PQ.out).mono ?_); rintro e w' ⟨rfl, hb⟩; exact ⟨rfl, hg.trans (hb.mono hg.size)⟩)
                                  | ((with_reducible refine (rkey_as ⟨x1, x2, x3, x4, xn, xd⟩ _ _ _ _ _ _ _).mono ?_); rintro e w' ⟨rfl, hb⟩; exact ⟨rfl, hg.trans (hb.mono hg.size)⟩)
                                  | ((with_reducible refine (rkey_as ⟨y1, y2, y3, y4, yn, yd⟩ _ _ _ _ _ _ _).mono ?_); rintro e w' ⟨rfl, hb⟩; exact ⟨rfl, hg.trans (hb.mono hg.size)⟩))))
                      intro K hK
                      go_simp
                      refine hK _ ?_
                      clear hK K)
                   | (apply gRow_not
                      · go_simp; done
                      intro K hK
                      go_simp
                      refine hK _ ?_
                      clear hK K)
          refine gRow_nil ?_
          intro wd hb
          (
            replace HX := Lib.hid (HX.out.keep hb)
            replace HY := Lib.hid (HY.out.keep hb)
            replace HZ := Lib.hid (HZ.out.keep hb)
            replace HBW := Lib.hid (HBW.out.trans (hb.mono HBW.out.size)))
          clear hb
          go_wp2_with fail
          refine wp_region_grow (Below wd.heap.size wd) (by kernel_rfl) (by kernel_rfl) (Below.refl _ _).drew ?_
          repeat first
                   | (apply gRow_plain
                      · exact rfl
                      · intro wg hg
                        (((
                            obtain ⟨p0, p1, p2, p3, p4, p5, p6, -⟩ := (HX.out.keep hg).box.lay7
                            obtain ⟨q0, q1, q2, q3, q4, q5, q6, -⟩ := (HY.out.keep hg).box.lay7)))
                        go_simp
                        first
                          | exact rfl
                          | exact hg
                          | exact ⟨hg, rfl⟩
                          | (((
                                first
                                  | ((with_reducible refine (jbefore_as OX.out OY.out (HX.out.keep hg).num.rd (HX.out.keep hg).den.rd (HY.out.keep hg).num.rd (HY.out.keep hg).den.rd PP.out).mono ?_); rintro e w' ⟨rfl, hb⟩; exact ⟨rfl, hg.trans (hb.mono hg.size)⟩)
                                  | ((with_reducible refine (rbefore_as OX.out OY.out (HX.out.keep hg).num.rd (HX.out.keep hg).den.rd (HY.out.keep hg).num.rd (HY.out.keep hg).den.rd PP.out).mono ?_); rintro e w' ⟨rfl, hb⟩; exact ⟨rfl, hg.trans (hb.mono hg.size)⟩)
                                  | ((with_reducible refine (jbefore_as OY.out OX.out (HY.out.keep hg).num.rd (HY.out.keep hg).den.rd (HX.out.keep hg).num.rd (HX.out.keep hg).den.rd PQ.out).mono ?_); rintro e w' ⟨rfl, hb⟩; exact ⟨rfl, hg.trans (hb.mono hg.size)⟩)
                                  | ((with_reducible refine (rkey_as ⟨x1, x2, x3, x4, xn, xd⟩ _ _ _ _ _ _ _).mono ?_); rintro e w' ⟨rfl, hb⟩; exact ⟨rfl, hg.trans (hb.mono hg.size)⟩)
                                  | ((with_reducible refine (rkey_as ⟨y1, y2, y3, y4, yn, yd⟩ _ _ _ _ _ _ _).mono ?_); rintro e w' ⟨rfl, hb⟩; exact ⟨rfl, hg.trans (hb.mono hg.size)⟩))))
                      intro K hK
                      go_simp
                      refine hK _ ?_
                      clear hK K)
                   | (apply gRow_step
                      · go_simp; done
                      · intro wg hg
                        (((
                            obtain ⟨p0, p1, p2, p3, p4, p5, p6, -⟩ := (HX.out.keep hg).box.lay7
                            obtain ⟨q0, q1, q2, q3, q4, q5, q6, -⟩ := (HY.out.keep hg).box.lay7)))
                        go_simp
                        first
                          | exact rfl
                          | exact hg
                          | exact ⟨hg, rfl⟩
                          | (((
                                first
                                  | ((with_reducible refine (jbefore_as OX.out OY.out (HX.out.keep hg).num.rd (HX.out.keep hg).den.rd (HY.out.keep hg).num.rd (HY.out.keep hg).den.rd PP.out).mono ?_); rintro e w' ⟨rfl, hb⟩; exact ⟨rfl, hg.trans (hb.mono hg.size)⟩)
                                  | ((with_reducible refine (rbefore_as OX.out OY.out (HX.out.keep hg).num.rd (HX.out.keep hg).den.rd (HY.out.keep hg).num.rd (HY.out.keep hg).den.rd PP.out).mono ?_); rintro e w' ⟨rfl, hb⟩; exact ⟨rfl, hg.trans (hb.mono hg.size)⟩)
                                  | ((with_reducible refine (jbefore_as OY.out OX.out (HY.out.keep hg).num.rd (HY.out.keep hg).den.rd (HX.out.keep hg).num.rd (HX.out.keep hg).den.rd PQ.out).mono ?_); rintro e w' ⟨rfl, hb⟩; exact ⟨rfl, hg.trans (hb.mono hg.size)⟩)
                                  | ((with_reducible refine (rkey_as ⟨x1, x2, x3, x4, xn, xd⟩ _ _ _ _ _ _ _).mono ?_); rintro e w' ⟨rfl, hb⟩; exact ⟨rfl, hg.trans (hb.mono hg.size)⟩)
                                  | ((with_reducible refine (rkey_as ⟨y1, y2, y3, y4, yn, yd⟩ _ _ _ _ _ _ _).mono ?_); rintro e w' ⟨rfl, hb⟩; exact ⟨rfl, hg.trans (hb.mono hg.size)⟩))))
                      intro K hK
                      go_simp
                      refine hK _ ?_
                      clear hK K)
                   | (apply gRow_not
                      · go_simp; done
                      intro K hK
                      go_simp
                      refine hK _ ?_
                      clear hK K)
          refine gRow_nil ?_
          intro we hb
          (
            replace HX := Lib.hid (HX.out.keep hb)
            replace HY := Lib.hid (HY.out.keep hb)
            replace HZ := Lib.hid (HZ.out.keep hb)
            replace HBW := Lib.hid (HBW.out.trans (hb.mono HBW.out.size)))
          clear hb
          (
            obtain ⟨p0, p1, p2, p3, p4, p5, p6, -⟩ := HX.out.box.lay7
            obtain ⟨q0, q1, q2, q3, q4, q5, q6, -⟩ := HY.out.box.lay7
            obtain ⟨r0, r1, r2, r3, r4, r5, r6, -⟩ := HZ.out.box.lay7)
          go_wp2_with (first
            | (go_at_call 11; (with_reducible refine (awake_any _).mono ?_); (
                                                                               rintro e w' ⟨rfl, hb⟩
                                                                               (
                                                                                 replace HX := Lib.hid (HX.out.keep hb)
                                                                                 replace HY := Lib.hid (HY.out.keep hb)
                                                                                 replace HZ := Lib.hid (HZ.out.keep hb)
                                                                                 replace HBW := Lib.hid (HBW.out.trans (hb.mono HBW.out.size)))
                                                                               clear hb p0 p1 p2 p3 p4 p5 p6 q0 q1 q2 q3 q4 q5 q6 r0 r1 r2 r3 r4 r5 r6
                                                                               (
                                                                                 obtain ⟨p0, p1, p2, p3, p4, p5, p6, -⟩ := HX.out.box.lay7
                                                                                 obtain ⟨q0, q1, q2, q3, q4, q5, q6, -⟩ := HY.out.box.lay7
                                                                                 obtain ⟨r0, r1, r2, r3, r4, r5, r6, -⟩ := HZ.out.box.lay7)))
            | (go_at_call 8; (with_reducible refine (jbefore_as OX.out OY.out HX.out.num.rd HX.out.den.rd HY.out.num.rd HY.out.den.rd PP.out).mono ?_); (
                                                                                                                                                          rintro e w' ⟨rfl, hb⟩
                                                                                                                                                          (
                                                                                                                                                            replace HX := Lib.hid (HX.out.keep hb)
                                                                                                                                                            replace HY := Lib.hid (HY.out.keep hb)
                                                                                                                                                            replace HZ := Lib.hid (HZ.out.keep hb)
                                                                                                                                                            replace HBW := Lib.hid (HBW.out.trans (hb.mono HBW.out.size)))
                                                                                                                                                          clear hb p0 p1 p2 p3 p4 p5 p6 q0 q1 q2 q3 q4 q5 q6 r0 r1 r2 r3 r4 r5 r6
                                                                                                                                                          (
                                                                                                                                                            obtain ⟨p0, p1, p2, p3, p4, p5, p6, -⟩ := HX.out.box.lay7
                                                                                                                                                            obtain ⟨q0, q1, q2, q3, q4, q5, q6, -⟩ := HY.out.box.lay7
                                                                                                                                                            obtain ⟨r0, r1, r2, r3, r4, r5, r6, -⟩ := HZ.out.box.lay7)))
            | (go_at_call 8; (with_reducible refine (jbefore_as OY.out OZ.out HY.out.num.rd HY.out.den.rd HZ.out.num.rd HZ.out.den.rd PS.out).mono ?_); (
                                                                                                                                                          rintro e w' ⟨rfl, hb⟩
                                                                                                                                                          (
                                                                                                                                                            replace HX := Lib.hid (HX.out.keep hb)
                                                                                                                                                            replace HY := Lib.hid (HY.out.keep hb)
                                                                                                                                                            replace HZ := Lib.hid (HZ.out.keep hb)
                                                                                                                                                            replace HBW := Lib.hid (HBW.out.trans (hb.mono HBW.out.size)))
                                                                                                                                                          clear hb p0 p1 p2 p3 p4 p5 p6 q0 q1 q2 q3 q4 q5 q6 r0 r1 r2 r3 r4 r5 r6
                                                                                                                                                          (
                                                                                                                                                            obtain ⟨p0, p1, p2, p3, p4, p5, p6, -⟩ := HX.out.box.lay7
                                                                                                                                                            obtain ⟨q0, q1, q2, q3, q4, q5, q6, -⟩ := HY.out.box.lay7
                                                                                                                                                            obtain ⟨r0, r1, r2, r3, r4, r5, r6, -⟩ := HZ.out.box.lay7)))
            | (go_at_call 8; (with_reducible refine (jbefore_as OX.out OZ.out HX.out.num.rd HX.out.den.rd HZ.out.num.rd HZ.out.den.rd PT.out).mono ?_); (
                                                                                                                                                          rintro e w' ⟨rfl, hb⟩
                                                                                                                                                          (
                                                                                                                                                            replace HX := Lib.hid (HX.out.keep hb)
                                                                                                                                                            replace HY := Lib.hid (HY.out.keep hb)
                                                                                                                                                            replace HZ := Lib.hid (HZ.out.keep hb)
                                                                                                                                                            replace HBW := Lib.hid (HBW.out.trans (hb.mono HBW.out.size)))
                                                                                                                                                          clear hb p0 p1 p2 p3 p4 p5 p6 q0 q1 q2 q3 q4 q5 q6 r0 r1 r2 r3 r4 r5 r6
                                                                                                                                                          (
                                                                                                                                                            obtain ⟨p0, p1, p2, p3, p4, p5, p6, -⟩ := HX.out.box.lay7
                                                                                                                                                            obtain ⟨q0, q1, q2, q3, q4, q5, q6, -⟩ := HY.out.box.lay7
                                                                                                                                                            obtain ⟨r0, r1, r2, r3, r4, r5, r6, -⟩ := HZ.out.box.lay7)))
            | (go_at_call 8; (with_reducible refine (jbefore_as OY.out OX.out HY.out.num.rd HY.out.den.rd HX.out.num.rd HX.out.den.rd PQ.out).mono ?_); (
                                                                                                                                                          rintro e w' ⟨rfl, hb⟩
                                                                                                                                                          (
                                                                                                                                                            replace HX := Lib.hid (HX.out.keep hb)
                                                                                                                                                            replace HY := Lib.hid (HY.out.keep hb)
                                                                                                                                                            replace HZ := Lib.hid (HZ.out.keep hb)
                                                                                                                                                            replace HBW := Lib.hid (HBW.out.trans (hb.mono HBW.out.size)))
                                                                                                                                                          clear hb p0 p1 p2 p3 p4 p5 p6 q0 q1 q2 q3 q4 q5 q6 r0 r1 r2 r3 r4 r5 r6
                                                                                                                                                          (
                                                                                                                                                            obtain ⟨p0, p1, p2, p3, p4, p5, p6, -⟩ := HX.out.box.lay7
                                                                                                                                                            obtain ⟨q0, q1, q2, q3, q4, q5, q6, -⟩ := HY.out.box.lay7
                                                                                                                                                            obtain ⟨r0, r1, r2, r3, r4, r5, r6, -⟩ := HZ.out.box.lay7))))
          go_ret
          exact ⟨rfl, HBW.out⟩)
    | false =>
      obtain rfl := hto hk rfl
      clear hpq htr hto hk
      (
        refine wp_region_grow (Below wc.heap.size wc) (by kernel_rfl) (by kernel_rfl) (Below.refl _ _).drew ?_
        repeat first
                 | (apply gRow_plain
                    · exact rfl
                    · intro wg hg
                      (((
                          obtain ⟨p0, p1, p2, p3, p4, p5, p6, -⟩ := (HX.out.keep hg).box.lay7
                          obtain ⟨q0, q1, q2, q3, q4, q5, q6, -⟩ := (HY.out.keep hg).box.lay7)))
                      go_simp
                      first
                        | exact rfl
                        | exact hg
                        | exact ⟨hg, rfl⟩
                        | (((
                              first
                                | ((with_reducible refine (jbefore_as OX.out OY.out (HX.out.keep hg).num.rd (HX.out.keep hg).den.rd (HY.out.keep hg).num.rd (HY.out.keep hg).den.rd PP.out).mono ?_); rintro e w' ⟨rfl, hb⟩; exact ⟨rfl, hg.trans (hb.mono hg.size)⟩)
                                | ((with_reducible refine (rbefore_as OX.out OY.out (HX.out.keep hg).num.rd (HX.out.keep hg).den.rd (HY.out.keep hg).num.rd (HY.out.keep hg).den.rd PP.out).mono ?_); rintro e w' ⟨rfl, hb⟩; exact ⟨rfl, hg.trans (hb.mono hg.size)⟩)
                                | ((with_reducible refine (jbefore_as OY.out OX.out (HY.out.keep hg).num.rd (HY.out.keep hg).den.rd (HX.out.keep hg).num.rd (HX.out.keep hg).den.rd PQ.out).mono ?_); rintro e w' ⟨rfl, hb⟩; exact ⟨rfl, hg.trans (hb.mono hg.size)⟩)
                                | ((with_reducible refine (rkey_as ⟨x1, x2, x3, x4, xn, xd⟩ _ _ _ _ _ _ _).mono ?_); rintro e w' ⟨rfl, hb⟩; exact ⟨rfl, hg.trans (hb.mono hg.size)⟩)
                                | ((with_reducible refine (rkey_as ⟨y1, y2, y3, y4, yn, yd⟩ _ _ _ _ _ _ _).mono ?_); rintro e w' ⟨rfl, hb⟩; exact ⟨rfl, hg.trans (hb.mono hg.size)⟩))))
                    intro K hK
                    go_simp
                    refine hK _ ?_
                    clear hK K)
                 | (apply gRow_step
                    · go_simp; done
                    · intro wg hg
                      (((
                          obtain ⟨p0, p1, p2, p3, p4, p5, p6, -⟩ := (HX.out.keep hg).box.lay7
                          obtain ⟨q0, q1, q2, q3, q4, q5, q6, -⟩ := (HY.out.keep hg).box.lay7)))
                      go_simp
                      first
                        | exact rfl
                        | exact hg
                        | exact ⟨hg, rfl⟩
                        | (((
                              first
                                | ((with_reducible refine (jbefore_as OX.out OY.out (HX.out.keep hg).num.rd (HX.out.keep hg).den.rd (HY.out.keep hg).num.rd (HY.out.keep hg).den.rd PP.out).mono ?_); rintro e w' ⟨rfl, hb⟩; exact ⟨rfl, hg.trans (hb.mono hg.size)⟩)
                                | ((with_reducible refine (rbefore_as OX.out OY.out (HX.out.keep hg).num.rd (HX.out.keep hg).den.rd (HY.out.keep hg).num.rd (HY.out.keep hg).den.rd PP.out).mono ?_); rintro e w' ⟨rfl, hb⟩; exact ⟨rfl, hg.trans (hb.mono hg.size)⟩)
                                | ((with_reducible refine (jbefore_as OY.out OX.out (HY.out.keep hg).num.rd (HY.out.keep hg).den.rd (HX.out.keep hg).num.rd (HX.out.keep hg).den.rd PQ.out).mono ?_); rintro e w' ⟨rfl, hb⟩; exact ⟨rfl, hg.trans (hb.mono hg.size)⟩)
                                | ((with_reducible refine (rkey_as ⟨x1, x2, x3, x4, xn, xd⟩ _ _ _ _ _ _ _).mono ?_); rintro e w' ⟨rfl, hb⟩; exact ⟨rfl, hg.trans (hb.mono hg.size)⟩)
                                | ((with_reducible refine (rkey_as ⟨y1, y2, y3, y4, yn, yd⟩ _ _ _ _ _ _ _).mono ?_); rintro e w' ⟨rfl, hb⟩; exact ⟨rfl, hg.trans (hb.mono hg.size)⟩))))
                    intro K hK
                    go_simp
                    refine hK _ ?_
                    clear hK K)
                 | (apply gRow_not
                    · go_simp; done
                    intro K hK
                    go_simp
                    refine hK _ ?_
                    clear hK K)
        refine gRow_nil ?_
        intro wd hb
        (
          replace HX := Lib.hid (HX.out.keep hb)
          replace HY := Lib.hid (HY.out.keep hb)
          replace HZ := Lib.hid (HZ.out.keep hb)
          replace HBW := Lib.hid (HBW.out.trans (hb.mono HBW.out.size)))
        clear hb
        go_wp2_with fail
        refine wp_region_grow (Below wd.heap.size wd) (by kernel_rfl) (by kernel_rfl) (Below.refl _ _).drew ?_
        repeat first
                 | (apply gRow_plain
                    · exact rfl
                    · intro wg hg
                      (((
                          obtain ⟨p0, p1, p2, p3, p4, p5, p6, -⟩ := (HX.out.keep hg).box.lay7
                          obtain ⟨q0, q1, q2, q3, q4, q5, q6, -⟩ := (HY.out.keep hg).box.lay7)))
                      go_simp
                      first
                        | exact rfl
                        | exact hg
                        | exact ⟨hg, rfl⟩
                        | (((
                              first
                                | ((with_reducible refine (jbefore_as OX.out OY.out (HX.out.keep hg).num.rd (HX.out.keep hg).den.rd (HY.out.keep hg).num.rd (HY.out.keep hg).den.rd PP.out).mono ?_); rintro e w' ⟨rfl, hb⟩; exact ⟨rfl, hg.trans (hb.mono hg.size)⟩)
                                | ((with_reducible refine (rbefore_as OX.out OY.out (HX.out.keep hg).num.rd (HX.out.keep hg).den.rd (HY.out.keep hg).num.rd (HY.out.keep hg).den.rd PP.out).mono ?_); rintro e w' ⟨rfl, hb⟩; exact ⟨rfl, hg.trans (hb.mono hg.size)⟩)
                                | ((with_reducible refine (jbefore_as OY.out OX.out (HY.out.keep hg).num.rd (HY.out.keep hg).den.rd (HX.out.keep hg).num.rd (HX.out.keep hg).den.rd PQ.out).mono ?_); rintro e w' ⟨rfl, hb⟩; exact ⟨rfl, hg.trans (hb.mono hg.size)⟩)
                                | ((with_reducible refine (rkey_as ⟨x1, x2, x3, x4, xn, xd⟩ _ _ _ _ _ _ _).mono ?_); rintro e w' ⟨rfl, hb⟩; exact ⟨rfl, hg.trans (hb.mono hg.size)⟩)
                                | ((with_reducible refine (rkey_as ⟨y1, y2, y3, y4, yn, yd⟩ _ _ _ _ _ _ _).mono ?_); rintro e w' ⟨rfl, hb⟩; exact ⟨rfl, hg.trans (hb.mono hg.size)⟩))))
                    intro K hK
                    go_simp
                    refine hK _ ?_
                    clear hK K)
                 | (apply gRow_step
                    · go_simp; done
                    · intro wg hg
                      (((
                          obtain ⟨p0, p1, p2, p3, p4, p5, p6, -⟩ := (HX.out.keep hg).box.lay7
                          obtain ⟨q0, q1, q2, q3, q4, q5, q6, -⟩ := (HY.out.keep hg).box.lay7)))
                      go_simp
                      first
                        | exact rfl
                        | exact hg
                        | exact ⟨hg, rfl⟩
                        | (((
                              first
                                | ((with_reducible refine (jbefore_as OX.out OY.out (HX.out.keep hg).num.rd (HX.out.keep hg).den.rd (HY.out.keep hg).num.rd (HY.out.keep hg).den.rd PP.out).mono ?_); rintro e w' ⟨rfl, hb⟩; exact ⟨rfl, hg.trans (hb.mono hg.size)⟩)
                                | ((with_reducible refine (rbefore_as OX.out OY.out (HX.out.keep hg).num.rd (HX.out.keep hg).den.rd (HY.out.keep hg).num.rd (HY.out.keep hg).den.rd PP.out).mono ?_); rintro e w' ⟨rfl, hb⟩; exact ⟨rfl, hg.trans (hb.mono hg.size)⟩)
                                | ((with_reducible refine (jbefore_as OY.out OX.out (HY.out.keep hg).num.rd (HY.out.keep hg).den.rd (HX.out.keep hg).num.rd (HX.out.keep hg).den.rd PQ.out).mono ?_); rintro e w' ⟨rfl, hb⟩; exact ⟨rfl, hg.trans (hb.mono hg.size)⟩)
                                | ((with_reducible refine (rkey_as ⟨x1, x2, x3, x4, xn, xd⟩ _ _ _ _ _ _ _).mono ?_); rintro e w' ⟨rfl, hb⟩; exact ⟨rfl, hg.trans (hb.mono hg.size)⟩)
                                | ((with_reducible refine (rkey_as ⟨y1, y2, y3, y4, yn, yd⟩ _ _ _ _ _ _ _).mono ?_); rintro e w' ⟨rfl, hb⟩; exact ⟨rfl, hg.trans (hb.mono hg.size)⟩))))
                    intro K hK
                    go_simp
                    refine hK _ ?_
                    clear hK K)
                 | (apply gRow_not
                    · go_simp; done
                    intro K hK
                    go_simp
                    refine hK _ ?_
                    clear hK K)
        refine gRow_nil ?_
        intro we hb
        (
          replace HX := Lib.hid (HX.out.keep hb)
          replace HY := Lib.hid (HY.out.keep hb)
          replace HZ := Lib.hid (HZ.out.keep hb)
          replace HBW := Lib.hid (HBW.out.trans (hb.mono HBW.out.size)))
        clear hb
        (
          obtain ⟨p0, p1, p2, p3, p4, p5, p6, -⟩ := HX.out.box.lay7
          obtain ⟨q0, q1, q2, q3, q4, q5, q6, -⟩ := HY.out.box.lay7
          obtain ⟨r0, r1, r2, r3, r4, r5, r6, -⟩ := HZ.out.box.lay7)
        go_wp2_with (first
          | (go_at_call 11; (with_reducible refine (awake_any _).mono ?_); (
                                                                             rintro e w' ⟨rfl, hb⟩
                                                                             (
                                                                               replace HX := Lib.hid (HX.out.keep hb)
                                                                               replace HY := Lib.hid (HY.out.keep hb)
                                                                               replace HZ := Lib.hid (HZ.out.keep hb)
                                                                               replace HBW := Lib.hid (HBW.out.trans (hb.mono HBW.out.size)))
                                                                             clear hb p0 p1 p2 p3 p4 p5 p6 q0 q1 q2 q3 q4 q5 q6 r0 r1 r2 r3 r4 r5 r6
                                                                             (
                                                                               obtain ⟨p0, p1, p2, p3, p4, p5, p6, -⟩ := HX.out.box.lay7
                                                                               obtain ⟨q0, q1, q2, q3, q4, q5, q6, -⟩ := HY.out.box.lay7
                                                                               obtain ⟨r0, r1, r2, r3, r4, r5, r6, -⟩ := HZ.out.box.lay7)))
          | (go_at_call 8; (with_reducible refine (jbefore_as OX.out OY.out HX.out.num.rd HX.out.den.rd HY.out.num.rd HY.out.den.rd PP.out).mono ?_); (
                                                                                                                                                        rintro e w' ⟨rfl, hb⟩
                                                                                                                                                        (
                                                                                                                                                          replace HX := Lib.hid (HX.out.keep hb)
                                                                                                                                                          replace HY := Lib.hid (HY.out.keep hb)
                                                                                                                                                          replace HZ := Lib.hid (HZ.out.keep hb)
                                                                                                                                                          replace HBW := Lib.hid (HBW.out.trans (hb.mono HBW.out.size)))
                                                                                                                                                        clear hb p0 p1 p2 p3 p4 p5 p6 q0 q1 q2 q3 q4 q5 q6 r0 r1 r2 r3 r4 r5 r6
                                                                                                                                                        (
                                                                                                                                                          obtain ⟨p0, p1, p2, p3, p4, p5, p6, -⟩ := HX.out.box.lay7
                                                                                                                                                          obtain ⟨q0, q1, q2, q3, q4, q5, q6, -⟩ := HY.out.box.lay7
                                                                                                                                                          obtain ⟨r0, r1, r2, r3, r4, r5, r6, -⟩ := HZ.out.box.lay7)))
          | (go_at_call 8; (with_reducible refine (jbefore_as OY.out OZ.out HY.out.num.rd HY.out.den.rd HZ.out.num.rd HZ.out.den.rd PS.out).mono ?_); (
                                                                                                                                                        rintro e w' ⟨rfl, hb⟩
                                                                                                                                                        (
                                                                                                                                                          replace HX := Lib.hid (HX.out.keep hb)
                                                                                                                                                          replace HY := Lib.hid (HY.out.keep hb)
                                                                                                                                                          replace HZ := Lib.hid (HZ.out.keep hb)
                                                                                                                                                          replace HBW := Lib.hid (HBW.out.trans (hb.mono HBW.out.size)))
                                                                                                                                                        clear hb p0 p1 p2 p3 p4 p5 p6 q0 q1 q2 q3 q4 q5 q6 r0 r1 r2 r3 r4 r5 r6
                                                                                                                                                        (
                                                                                                                                                          obtain ⟨p0, p1, p2, p3, p4, p5, p6, -⟩ := HX.out.box.lay7
                                                                                                                                                          obtain ⟨q0, q1, q2, q3, q4, q5, q6, -⟩ := HY.out.box.lay7
                                                                                                                                                          obtain ⟨r0, r1, r2, r3, r4, r5, r6, -⟩ := HZ.out.box.lay7)))
          | (go_at_call 8; (with_reducible refine (jbefore_as OX.out OZ.out HX.out.num.rd HX.out.den.rd HZ.out.num.rd HZ.out.den.rd PT.out).mono ?_); (
                                                                                                                                                        rintro e w' ⟨rfl, hb⟩
                                                                                                                                                        (
                                                                                                                                                          replace HX := Lib.hid (HX.out.keep hb)
                                                                                                                                                          replace HY := Lib.hid (HY.out.keep hb)
                                                                                                                                                          replace HZ := Lib.hid (HZ.out.keep hb)
                                                                                                                                                          replace HBW := Lib.hid (HBW.out.trans (hb.mono HBW.out.size)))
                                                                                                                                                        clear hb p0 p1 p2 p3 p4 p5 p6 q0 q1 q2 q3 q4 q5 q6 r0 r1 r2 r3 r4 r5 r6
                                                                                                                                                        (
                                                                                                                                                          obtain ⟨p0, p1, p2, p3, p4, p5, p6, -⟩ := HX.out.box.lay7
                                                                                                                                                          obtain ⟨q0, q1, q2, q3, q4, q5, q6, -⟩ := HY.out.box.lay7
                                                                                                                                                          obtain ⟨r0, r1, r2, r3, r4, r5, r6, -⟩ := HZ.out.box.lay7)))
          | (go_at_call 8; (with_reducible refine (jbefore_as OY.out OX.out HY.out.num.rd HY.out.den.rd HX.out.num.rd HX.out.den.rd PQ.out).mono ?_); (
                                                                                                                                                        rintro e w' ⟨rfl, hb⟩
                                                                                                                                                        (
                                                                                                                                                          replace HX := Lib.hid (HX.out.keep hb)
                                                                                                                                                          replace HY := Lib.hid (HY.out.keep hb)
                                                                                                                                                          replace HZ := Lib.hid (HZ.out.keep hb)
                                                                                                                                                          replace HBW := Lib.hid (HBW.out.trans (hb.mono HBW.out.size)))
                                                                                                                                                        clear hb p0 p1 p2 p3 p4 p5 p6 q0 q1 q2 q3 q4 q5 q6 r0 r1 r2 r3 r4 r5 r6
                                                                                                                                                        (
                                                                                                                                                          obtain ⟨p0, p1, p2, p3, p4, p5, p6, -⟩ := HX.out.box.lay7
                                                                                                                                                          obtain ⟨q0, q1, q2, q3, q4, q5, q6, -⟩ := HY.out.box.lay7
                                                                                                                                                          obtain ⟨r0, r1, r2, r3, r4, r5, r6, -⟩ := HZ.out.box.lay7))))
        go_ret
        exact ⟨rfl, HBW.out⟩)
end Go.Proofs.YtgnmolleaengaaaGreat
