/- Put of a job of any risk into an empty queue. -/
import Derived.Test.YtgnmolleaengaaaGreatVa
set_option linter.unusedVariables false
set_option linter.unusedSimpArgs false
set_option linter.unnecessarySimpa false
namespace Go.Proofs.YtgnmolleaengaaaGreat
namespace V
open Go Go.RowKit


/-- an empty queue is one of either kind -/
theorem Qp.old {B qb : Nat} {slots : Int} {w : World} (h : Qp B qb slots [] w) : Go.Proofs.YtgnmolleaengaaaGreat.Qp B qb slots [] w :=
  ⟨h.c0, h.row, h.thaw, h.ty, h.base, fun x hx => (by cases hx), fun x hx => (by cases hx)⟩
theorem Qp.of {B qb : Nat} {slots : Int} {w : World} (h : Go.Proofs.YtgnmolleaengaaaGreat.Qp B qb slots [] w) : Qp B qb slots [] w :=
  ⟨h.c0, h.row, h.thaw, h.ty, h.base, fun x hx => (by cases hx), fun x hx => (by cases hx)⟩
structure Qh (B qb : Nat) (slots : Int) (w : World) : Prop where
  c0 : w.cell? ⟨qb, 0, none⟩ = some (.int .i64 slots)
  c1 : ∃ v, w.cell? ⟨qb, 1, none⟩ = some v
  thaw : Thaw w qb
  ty : TyB w qb 68
  base : B ≤ qb
theorem Qp.head {B qb : Nat} {slots : Int} {L : List En} {w : World} (h : Qp B qb slots L w) : Qh B qb slots w := by
  obtain ⟨v, h1, _⟩ := h.row
  exact ⟨h.c0, ⟨v, h1⟩, h.thaw, h.ty, h.base⟩
namespace Qh
variable {B qb : Nat} {slots : Int} {L : List En} {w w' : World}
theorem same (h : Qh B qb slots w) (hb : w'.heap[qb]? = w.heap[qb]?) : Qh B qb slots w' := by
  obtain ⟨v, h1⟩ := h.c1
  exact ⟨(World.cell?_of_block (a := ⟨qb, 0, none⟩) hb).trans h.c0, ⟨v, (World.cell?_of_block (a := ⟨qb, 1, none⟩) hb).trans h1⟩, h.thaw.same hb, h.ty.same hb, h.base⟩
theorem keep (h : Qh B qb slots w) (hb : Below w.heap.size w w') : Qh B qb slots w' := h.same (hb.block qb h.ty.lt)
theorem put (h : Qh B qb slots w) {v : Value} (hr : w.ownsRow B 76 9 v L.length (eE.flat L)) (hf : ∀ x ∈ L, Ru w x.num x.j.n ∧ Ru w x.den x.j.d) (ho : ∀ x ∈ L, OkJ x.j) : Qp B qb slots L (w.setCell ⟨qb, 1, none⟩ v) := by
  obtain ⟨u, h1⟩ := h.c1
  refine ⟨(World.cell?_setCell_other _ _ _ _ (by simp)).trans h.c0, ⟨v, World.cell?_setCell_same _ _ _ h1, ?_⟩, h.thaw.setCell _ _, h.ty.setCell _ _, h.base, fun x hx => ⟨(hf x hx).1.set h.ty (by decide) _ _, (hf x hx).2.set h.ty (by decide) _ _⟩, ho⟩
  exact owns_same hr fun k hk => Below.heap_setCell _ _ _ _ fun e => by
    have e : k = qb := e
    subst e
    exact absurd ((owns_ty hr hk).uniq h.ty) (by decide)
end Qh
/-- what the loads of Put see -/
structure Pb (qb bx : Nat) (v : Value) (c : Array Value) (wx : World) : Prop where
  c1 : wx.cell? ⟨qb, 1, none⟩ = some v
  box : Holds wx bx c
/-- the queue, and the box -/
structure Pu (B qb bx : Nat) (slots : Int) (L : List En) (v : Value) (c : Array Value) (w wx : World) : Prop where
  q : Qp B qb slots L wx
  see : Pb qb bx v c wx
  bty : TyB wx bx 29
  t : Qt B w wx
theorem Pu.keep {B qb bx : Nat} {slots : Int} {L : List En} {v : Value} {c : Array Value} {w wx wy : World} (h : Pu B qb bx slots L v c w wx) (hb : Below wx.heap.size wx wy) : Pu B qb bx slots L v c w wy :=
  ⟨h.q.keep hb, ⟨(hb.cell (p := ⟨qb, 1, none⟩) h.q.ty.lt).trans h.see.c1, h.see.box.keep hb⟩, h.bty.keep hb, h.t.keep hb⟩
/-- .. and the cloned risk -/
structure Pv (B qb bx : Nat) (slots : Int) (L : List En) (v : Value) (c : Array Value) (w : World) (y : En) (wx : World) : Prop where
  pu : Pu B qb bx slots L v c w wx
  num : Ru wx y.num y.j.n
  den : Ru wx y.den y.j.d
theorem Pv.keep {B qb bx : Nat} {slots : Int} {L : List En} {v : Value} {c : Array Value} {w wx wy : World} {y : En} (h : Pv B qb bx slots L v c w y wx) (hb : Below wx.heap.size wx wy) : Pv B qb bx slots L v c w y wy := ⟨h.pu.keep hb, h.num.keep hb, h.den.keep hb⟩
/-- .. and the risk that came in -/
structure Pr (B qb bx : Nat) (slots : Int) (L : List En) (v : Value) (c : Array Value) (w : World) (y : En) (wx : World) : Prop where
  pu : Pu B qb bx slots L v c w wx
  num : Rd eU wx y.num y.j.n
  den : Rd eU wx y.den y.j.d
theorem Pr.keep {B qb bx : Nat} {slots : Int} {L : List En} {v : Value} {c : Array Value} {w wx wy : World} {y : En} (h : Pr B qb bx slots L v c w y wx) (hb : Below wx.heap.size wx wy) : Pr B qb bx slots L v c w y wy := ⟨h.pu.keep hb, h.num.keep hb, h.den.keep hb⟩
/-- .. and the new entry's own block -/
structure Pw (B qb bx : Nat) (slots : Int) (L : List En) (v : Value) (c : Array Value) (w : World) (y : En) (b : Nat) (wx : World) : Prop where
  pv : Pv B qb bx slots L v c w y wx
  rd : Rd eE wx (.slice (some ⟨b, 0, none⟩) 1 1) [y]
theorem Pw.keep {B qb bx : Nat} {slots : Int} {L : List En} {v : Value} {c : Array Value} {w wx wy : World} {y : En} {b : Nat} (h : Pw B qb bx slots L v c w y b wx) (hb : Below wx.heap.size wx wy) : Pw B qb bx slots L v c w y b wy := ⟨h.pv.keep hb, h.rd.keep hb⟩
theorem Pv.build {B qb bx : Nat} {slots : Int} {L : List En} {v : Value} {c : Array Value} {w wx : World} {y : En} (h : Pv B qb bx slots L v c w y wx) : Pw B qb bx slots L v c w y wx.heap.size (wx.alloc (.cells (ec y) 76)) := by
  refine ⟨h.keep (below_alloc _ _), ?_⟩
  have := Rd.new (E := eE) wx [y] (by simp) 76
  have e1 : eE.flat [y] = eE.f y := by simp [Enc.flat]
  rw [e1] at this
  exact this
/-- the row has grown -/
structure Px (B qb bx : Nat) (slots : Int) (L : List En) (v : Value) (c : Array Value) (w : World) (y : En) (u : Value) (wx : World) : Prop where
  head : Qh B qb slots wx
  see : Pb qb bx v c wx
  row : wx.ownsRow B 76 9 u (L ++ [y]).length (eE.flat (L ++ [y]))
  frac : ∀ x ∈ L ++ [y], Ru wx x.num x.j.n ∧ Ru wx x.den x.j.d
  t : Qt B w wx
theorem Px.keep {B qb bx : Nat} {slots : Int} {L : List En} {v u : Value} {c : Array Value} {w wx wy : World} {y : En} (h : Px B qb bx slots L v c w y u wx) (hb : Below wx.heap.size wx wy) : Px B qb bx slots L v c w y u wy :=
  ⟨h.head.keep hb, ⟨(hb.cell (p := ⟨qb, 1, none⟩) h.head.ty.lt).trans h.see.c1, h.see.box.keep hb⟩, owns_below h.row hb, fun x hx => ⟨(h.frac x hx).1.keep hb, (h.frac x hx).2.keep hb⟩, h.t.keep hb⟩
theorem Px.put {B qb bx : Nat} {slots : Int} {L : List En} {v u : Value} {c : Array Value} {w wx : World} {y : En} (h : Px B qb bx slots L v c w y u wx) (hok : ∀ x ∈ L ++ [y], OkJ x.j) : Qp B qb slots (L ++ [y]) (wx.setCell ⟨qb, 1, none⟩ u) ∧ Qt B w (wx.setCell ⟨qb, 1, none⟩ u) :=
  ⟨h.head.put h.row h.frac hok, h.t.set (.inr h.head.ty) h.head.base _ _⟩

theorem sUpon_grow {B qb bx : Nat} {slots : Int} {L : List En} {v : Value} {c : Array Value} {w W : World} {y : En} {b : Nat} {o : Oper} {a : Act} (s x : Operand)
    (ho : o.op = .call { callee := .builtin .append, args := #[s, x], argTypes := #[66, 66] }) (hs : a.eval s = v) (hx : a.eval x = .slice (some ⟨b, 0, none⟩) 1 1) (h : Pw B qb bx slots L v c w y b W) (hB : B ≤ W.heap.size) (hn : L.length ≤ 1000) :
    sUpon Tryz.prog (fun u w' => ∃ p : Option Addr × Nat, u = .slice p.1 (L ++ [y]).length p.2 ∧ Px B qb bx slots L v c w y (.slice p.1 (L ++ [y]).length p.2) w') ((execOp a.eval o).run Tryz.prog W) := by
  obtain ⟨v0, q1, q2⟩ := h.pv.pu.q.row
  have e := q1.symm.trans h.pv.pu.see.c1
  cases e
  have how := ow_cut q2 hB
  obtain ⟨v', w', hr, h2, h3⟩ := append_run2 elt53 how h.rd (by simp; omega) o.type
  have hrow := h2.row
  rw [cut_size hB] at hrow
  obtain ⟨p, cap, rfl⟩ := h2.val
  have hqb : w'.heap[qb]? = W.heap[qb]? := h3.by_.block qb h.pv.pu.q.ty.lt fun e => absurd ((owns_ty q2 e.symm).uniq h.pv.pu.q.ty) (by decide)
  have hbx : w'.heap[bx]? = W.heap[bx]? := h3.by_.block bx h.pv.pu.bty.lt fun e => absurd ((owns_ty q2 e.symm).uniq h.pv.pu.bty) (by decide)
  have hpx : Px B qb bx slots L v c w y (.slice p (L ++ [y]).length cap) w' := by
    refine ⟨h.pv.pu.q.head.same hqb, ⟨(World.cell?_of_block (a := ⟨qb, 1, none⟩) hqb).trans h.pv.pu.see.c1, h.pv.pu.see.box.same h3.by_.size hbx⟩, hrow, fun z hz => ?_, ?_⟩
    · rcases List.mem_append.1 hz with hz | hz
      · exact ⟨(h.pv.pu.q.frac z hz).1.grown q2 (by decide) h3.by_, (h.pv.pu.q.frac z hz).2.grown q2 (by decide) h3.by_⟩
      · rw [List.mem_singleton.1 hz]
        exact ⟨h.pv.num.grown q2 (by decide) h3.by_, h.pv.den.grown q2 (by decide) h3.by_⟩
    · have hg := h3.by_
      cases hv : v.ownBlock with
      | none =>
        rw [hv] at hg
        exact h.pv.pu.t.grown hg (fun k hk => by cases hk)
      | some g =>
        rw [hv] at hg
        exact h.pv.pu.t.own hg (owns_ty q2 hv) (q2.lt g hv).1
  unfold execOp
  simp only [ho, resolve, invoke, builtin, Sem.run_bind, Sem.run_pure, Result.andThen_ok, List.map_toArray, List.map_cons, List.map_nil, hs, hx, hr]
  exact ⟨(p, cap), rfl, hpx⟩
/-- an entry y with the job j and the marks of m, put into the row by f -/
def PutPost (B qb : Nat) (slots : Int) (j : Jb) (run held : Bool) (f : En → List En) (w : World) (e : Ending) (w' : World) : Prop :=
  e = .returned (.int .i64 0) ∧ ∃ y, y.j = j ∧ y.run = run ∧ y.held = held ∧ Qp B qb slots (f y) w' ∧ Qt B w w'


set_option maxRecDepth 20000 in
set_option maxHeartbeats 4000000 in
theorem put_new {B qb : Nat} {slots : Int} {w : World} (h : Qp B qb slots [] w) (hB : B ≤ w.heap.size) {j : Jb} {an ad : Option Addr} {anc adc : Nat} (oj : OkJ j) (hval : ∀ w0 : World, Rd eU (w0.alloc (.cells (jc j (.slice an j.n.length anc) (.slice ad j.d.length adc)) 29)) (.slice an j.n.length anc) j.n → Rd eU (w0.alloc (.cells (jc j (.slice an j.n.length anc) (.slice ad j.d.length adc)) 29)) (.slice ad j.d.length adc) j.d → Calls Tryz.prog 15 #[jv j (.slice an j.n.length anc) (.slice ad j.d.length adc)] (w0.alloc (.cells (jc j (.slice an j.n.length anc) (.slice ad j.d.length adc)) 29)) fun e w' => e = .returned (.bool true) ∧ Below (w0.alloc (.cells (jc j (.slice an j.n.length anc) (.slice ad j.d.length adc)) 29)).heap.size (w0.alloc (.cells (jc j (.slice an j.n.length anc) (.slice ad j.d.length adc)) 29)) w') (h1 : Rd eU w (.slice an j.n.length anc) j.n) (h2 : Rd eU w (.slice ad j.d.length adc) j.d) :
    Calls Tryz.prog 16 #[.pointer (some ⟨qb, 0, none⟩), jv j (.slice an j.n.length anc) (.slice ad j.d.length adc)] w (PutPost B qb slots j false false (fun y => [] ++ [y]) w) := by
  (
    have HBX := Lib.hid (Holds.new w (jc j (.slice an j.n.length anc) (.slice ad j.d.length adc)) 29)
    have HTY := Lib.hid (TyB.new w (jc j (.slice an j.n.length anc) (.slice ad j.d.length adc)) 29)
    have hba := below_alloc w (.cells (jc j (.slice an j.n.length anc) (.slice ad j.d.length adc)) 29)
    have HBA := Lib.hid hba
    have HR1 := Lib.hid (h1.keep hba)
    have HR2 := Lib.hid (h2.keep hba)
    have HQ0 := Lib.hid (h.keep hba)
    have KV := Lib.hid (hval w HR1.out HR2.out)
    have HOJ := Lib.hid oj
    have HI := Lib.hid (show idxF (j.vol, j.frag) [] = -1 from rfl)
    have HBB := Lib.hid hB
    clear h h1 h2 hba oj hB hval
    obtain ⟨a1, a2, a3, a4, ng, n1, d1⟩ := j
    unfold PutPost
    go_enter Tryz.func16, Tryz.ntmps16
    obtain ⟨s0, s1, s2, s3, s4, s5, s6, -⟩ := HBX.out.lay7
    go_wp2_with (first
      | (go_at_call 15; (with_reducible refine KV.out.mono ?_); rintro e w1 ⟨rfl, hb⟩; have HB1 := Lib.hid (HBA.out.trans (hb.mono HBA.out.size)); have HX1 := Lib.hid (HBX.out.keep hb); have HT1 := Lib.hid (HTY.out.keep hb); have HQ1 := Lib.hid (HQ0.out.keep hb); have HU1 := Lib.hid (HR1.out.keep hb); have HV1 := Lib.hid (HR2.out.keep hb); clear s0 s1 s2 s3 s4 s5 s6; obtain ⟨s0, s1, s2, s3, s4, s5, s6, -⟩ := HX1.out.lay7; clear hb)
      | (go_at_call 34; (with_reducible refine (key_as ⟨a1, a2, a3, a4, ng, n1, d1⟩ _ _ _ _ _ _ _).mono ?_); rintro e w2 ⟨rfl, hb⟩; have HB2 := Lib.hid (HB1.out.trans (hb.mono HB1.out.size)); have HX2 := Lib.hid (HX1.out.keep hb); have HT2 := Lib.hid (HT1.out.keep hb); have HQ2 := Lib.hid (HQ1.out.keep hb); have HU2 := Lib.hid (HU1.out.keep hb); have HV2 := Lib.hid (HV1.out.keep hb); have KF := Lib.hid (find_as (Qp.old HQ2.out) (by simp) (a1, a2) HI.out); clear s0 s1 s2 s3 s4 s5 s6; clear hb)
      | (go_at_call 33; (with_reducible refine KF.out.mono ?_); rintro e w3 ⟨rfl, hb⟩; have HB3 := Lib.hid (HB2.out.trans (hb.mono HB2.out.size)); have HX3 := Lib.hid (HX2.out.keep hb); have HT3 := Lib.hid (HT2.out.keep hb); have HQ3 := Lib.hid (HQ2.out.keep hb); have HU3 := Lib.hid (HU2.out.keep hb); have HV3 := Lib.hid (HV2.out.keep hb); clear hb)))
  obtain ⟨v, hv1, -⟩ := HQ3.out.row
  have HPU := Lib.hid (show Pr B qb w.heap.size slots [] v (jc ⟨a1, a2, a3, a4, ng, n1, d1⟩ (.slice an n1.length anc) (.slice ad d1.length adc)) w ⟨⟨a1, a2, a3, a4, ng, n1, d1⟩, an, anc, ad, adc, false, false⟩ w3 from ⟨⟨HQ3.out, ⟨hv1, HX3.out⟩, HT3.out, Qt.of_below HB3.out B⟩, HU3.out, HV3.out⟩)
  have HB4 := Lib.hid (show B ≤ w.heap.size from HBB.out)
  clear hv1
  refine wp_region_pick_tail (Pb qb w.heap.size v (jc ⟨a1, a2, a3, a4, ng, n1, d1⟩ (.slice an n1.length anc) (.slice ad d1.length adc))) (Pr B qb w.heap.size slots [] v (jc ⟨a1, a2, a3, a4, ng, n1, d1⟩ (.slice an n1.length anc) (.slice ad d1.length adc)) w ⟨⟨a1, a2, a3, a4, ng, n1, d1⟩, an, anc, ad, adc, false, false⟩) [0, 1, 2, 3, 4, 5] 4 10 (by kernel_rfl) ?_ (fun _ _ h hb => h.keep hb) (fun _ h => h.pu.see) HPU.out ?_
  · kernel_rfl
  repeat (apply pRow_plain
          · exact rfl
          · exact rfl
          · intro wg hg
            ((obtain ⟨s0, s1, s2, s3, s4, s5, s6, -⟩ := hg.box.lay7; have dd1 := hg.c1))
            go_simp
            first
              | exact rfl
              | exact Below.refl _ _
              | exact ⟨Below.refl _ _, rfl⟩
              | ((fail))
          intro K hK
          go_simp
          refine hK _ ?_
          clear hK K)
  refine pRow_nil ?_
  refine lAnyL_step [6] ?_ (by simp) (by decide) ?_
  · kernel_rfl
  intro k hk
  obtain rfl : k = 6 := by simpa using hk
  refine lOp_ex (ι := Option Addr × Nat × Option Addr × Nat) (fun p => jv ⟨a1, a2, a3, a4, ng, n1, d1⟩ (.slice p.1 n1.length p.2.1) (.slice p.2.2.1 d1.length p.2.2.2)) (fun p => Pv B qb w.heap.size slots [] v (jc ⟨a1, a2, a3, a4, ng, n1, d1⟩ (.slice an n1.length anc) (.slice ad d1.length adc)) w ⟨⟨a1, a2, a3, a4, ng, n1, d1⟩, p.1, p.2.1, p.2.2.1, p.2.2.2, false, false⟩) ?_ rfl rfl (fun _ _ _ h hb => h.keep hb) (fun _ _ h => h.pu.see) ?_ ?_
  · rintro ⟨p1, p2, p3, p4⟩ ⟨q1, q2, q3, q4⟩ he
    cases he
    rfl
  · intro wg hg
    go_simp
    with_reducible refine (clone_as (j := ⟨a1, a2, a3, a4, ng, n1, d1⟩) HOJ.out hg.num hg.den).mono ?_
    rintro e w' ⟨pa, pc, qa, qc, rfl, r1, r2, hb⟩
    exact ⟨_, rfl, pa, pc, qa, qc, rfl, hg.pu.keep hb, r1, r2⟩
  rintro ⟨pa, pc, qa, qc⟩
  go_simp
  refine lAnyL_step [7] ?_ (by simp) (by decide) ?_
  · kernel_rfl
  intro k hk
  obtain rfl : k = 7 := by simpa using hk
  refine lOp_same (.agg (ec (En.mk ⟨a1, a2, a3, a4, ng, n1, d1⟩ pa pc qa qc false false))) rfl rfl ?_ ?_
  · intro wg hg
    go_simp
    try exact Below.refl _ _
  go_simp
  refine lAnyL_step [8] ?_ (by simp) (by decide) ?_
  · kernel_rfl
  intro k hk
  obtain rfl : k = 8 := by simpa using hk
  refine lOp_ex (ι := Nat) (fun b => .slice (some ⟨b, 0, none⟩) 1 1) (fun b => Pw B qb w.heap.size slots [] v (jc ⟨a1, a2, a3, a4, ng, n1, d1⟩ (.slice an n1.length anc) (.slice ad d1.length adc)) w (En.mk ⟨a1, a2, a3, a4, ng, n1, d1⟩ pa pc qa qc false false) b) ?_ rfl rfl (fun _ _ _ h hb => h.keep hb) (fun _ _ h => h.pv.pu.see) ?_ ?_
  · intro x y he
    cases he
    rfl
  · intro wg hg
    have HK := hg.build
    go_simp
    try exact ⟨_, rfl, HK⟩
  intro b
  go_simp
  refine lAnyL_step [9] ?_ (by simp) (by decide) ?_
  · kernel_rfl
  intro k hk
  obtain rfl : k = 9 := by simpa using hk
  refine lOp_ex (ι := Option Addr × Nat) (fun p => .slice p.1 ([] ++ [En.mk ⟨a1, a2, a3, a4, ng, n1, d1⟩ pa pc qa qc false false]).length p.2) (fun p => Px B qb w.heap.size slots [] v (jc ⟨a1, a2, a3, a4, ng, n1, d1⟩ (.slice an n1.length anc) (.slice ad d1.length adc)) w (En.mk ⟨a1, a2, a3, a4, ng, n1, d1⟩ pa pc qa qc false false) (.slice p.1 ([] ++ [En.mk ⟨a1, a2, a3, a4, ng, n1, d1⟩ pa pc qa qc false false]).length p.2)) ?_ rfl rfl (fun _ _ _ h hb => h.keep hb) (fun _ _ h => h.see) ?_ ?_
  · rintro ⟨p1, p2⟩ ⟨q1, q2⟩ he
    cases he
    rfl
  · intro wg hg
    exact sUpon_grow _ _ rfl rfl rfl hg (Nat.le_of_lt (Nat.lt_of_le_of_lt hg.pv.pu.q.base hg.pv.pu.q.ty.lt)) (by simp)
  rintro ⟨p, cp⟩
  go_simp
  refine ⟨?_, ?_⟩
  · kernel_rfl
  intro wg hg
  have hg' : Px B qb w.heap.size slots [] v (jc ⟨a1, a2, a3, a4, ng, n1, d1⟩ (.slice an n1.length anc) (.slice ad d1.length adc)) w (En.mk ⟨a1, a2, a3, a4, ng, n1, d1⟩ pa pc qa qc false false) (.slice p ([] ++ [En.mk ⟨a1, a2, a3, a4, ng, n1, d1⟩ pa pc qa qc false false]).length cp) wg := by simpa using hg
  have HG := Lib.hid hg'
  have hok : ∀ x ∈ [] ++ [En.mk ⟨a1, a2, a3, a4, ng, n1, d1⟩ pa pc qa qc false false], OkJ x.j := fun x hx => by
    rcases List.mem_append.1 hx with hx | hx
    · exact HQ3.out.ok x hx
    · rw [List.mem_singleton.1 hx]; exact HOJ.out
  obtain ⟨hq4, ht4⟩ := hg'.put hok
  obtain ⟨u, hu⟩ := hg'.head.c1
  have hth := hg'.head.thaw 1
  have HT4 := Lib.hid ht4
  have HQ4 := Lib.hid hq4
  have HST := Lib.hid (entry_tiny p 1 cp (by omega) (.func 37) #[.pointer (some ⟨qb, 0, none⟩)] #[] (wg.setCell ⟨qb, 1, none⟩ (.slice p 1 cp)))
  clear hg hg' hq4 ht4 hok
  go_wp2_with (go_at_call 36; (with_reducible refine HST.out.mono ?_); rintro e w5 ⟨rfl, hb⟩; have HQ5 := Lib.hid (HQ4.out.keep hb); have HT5 := Lib.hid (HT4.out.keep hb); clear hb)
  go_ret
  exact ⟨rfl, En.mk ⟨a1, a2, a3, a4, ng, n1, d1⟩ pa pc qa qc false false, rfl, rfl, rfl, HQ5.out, HT5.out⟩
end V
end Go.Proofs.YtgnmolleaengaaaGreat
