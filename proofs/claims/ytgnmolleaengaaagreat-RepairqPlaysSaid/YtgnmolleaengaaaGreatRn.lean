/- What Put does to the row: an entry's job is replaced, or an entry is appended. -/
import Derived.Test.YtgnmolleaengaaaGreatRl
set_option linter.unusedVariables false
set_option linter.unusedSimpArgs false
set_option linter.unnecessarySimpa false
namespace Go.Proofs.YtgnmolleaengaaaGreat
open Go Go.RowKit

theorem flat_job {L : List En} {i : Nat} {x y : En} (hx : L[i]? = some x) {vs : List Value} (hf : eE.f y = vs ++ (eE.f x).drop vs.length) (hv : vs.length ≤ 9) : putMany (eE.flat L) (i * 9) vs = eE.flat (L.set i y) := by
  have hi : i < L.length := (List.getElem?_eq_some_iff.1 hx).1
  have hfl : (eE.flat L).length = L.length * 9 := flat_len L
  have hfl2 : (eE.flat (L.set i y)).length = L.length * 9 := by rw [flat_len, List.length_set]; rfl
  apply List.ext_getElem?
  intro t
  rw [putMany_get _ _ _ _ (by rw [hfl]; omega)]
  by_cases ht : t < L.length * 9
  · have hq : t / 9 < L.length := by omega
    have hr : t % 9 < 9 := Nat.mod_lt _ (by decide)
    have ht2 : t / 9 * 9 + t % 9 = t := by omega
    by_cases hqi : t / 9 = i
    · have e1 := flat_get (E := eE) (L.set i y) i y (t % 9) (by simp [hi]) hr
      have e2 := flat_get (E := eE) L i x (t % 9) hx hr
      rw [show i * eE.k + t % 9 = t by show i * 9 + t % 9 = t; omega] at e1 e2
      rw [e1, e2, hf]
      by_cases hlt : t % 9 < vs.length
      · rw [if_pos (by omega), List.getElem?_append_left hlt, show t - i * 9 = t % 9 by omega]
      · rw [if_neg (by omega), List.getElem?_append_right (by omega), List.getElem?_drop, show vs.length + (t % 9 - vs.length) = t % 9 by omega]
    · have hs : (L.set i y)[t / 9]? = some L[t / 9] := by rw [List.getElem?_set_ne (fun e => hqi e.symm)]; simp [hq]
      have e1 := flat_get (E := eE) (L.set i y) (t / 9) L[t / 9] (t % 9) hs hr
      have e2 := flat_get (E := eE) L (t / 9) L[t / 9] (t % 9) (by simp [hq]) hr
      rw [show t / 9 * eE.k + t % 9 = t by show t / 9 * 9 + t % 9 = t; omega] at e1 e2
      rw [e1, e2, if_neg (by omega)]
  · rw [if_neg (by omega), List.getElem?_eq_none (by omega), List.getElem?_eq_none (by omega)]

theorem QAt.job {B qb g cap n : Nat} {slots : Int} {L : List En} {w : World} (h : QAt B qb g cap slots L n w) {i : Nat} {x y : En} (hx : L[i]? = some x) {vs : List Value} (hf : eE.f y = vs ++ (eE.f x).drop vs.length) (hv : vs.length ≤ 9)
    (h1 : Ru w y.num (limb y.j.n)) (h2 : Ru w y.den (limb y.j.d)) (hok : OkJ y.j) : QAt B qb g cap slots (L.set i y) n (w.setCells g (i * 9) vs) ∧ ∀ w0, Qt B w0 w → Qt B w0 (w.setCells g (i * 9) vs) := by
  obtain ⟨ho, hg⟩ := owns_cells vs (i * 9) _ _ h.own
  rw [flat_job hx hf hv] at ho
  have hbl : (w.setCells g (i * 9) vs).heap[qb]? = w.heap[qb]? := hg.block qb h.q.ty.lt fun e => h.ne (Option.some.inj e).symm
  have c1 := (World.cell?_of_block (a := ⟨qb, 1, none⟩) hbl).trans h.c1
  refine ⟨⟨⟨(World.cell?_of_block (a := ⟨qb, 0, none⟩) hbl).trans h.q.c0, ⟨_, c1, by rw [List.length_set, h.len]; exact ho⟩, h.q.thaw.same hbl, h.q.ty.same hbl, h.q.base, fun z hz => ?_, fun z hz => ?_⟩, by rw [List.length_set]; exact h.len, c1⟩, fun w0 ht => ht.own hg h.ty h.base⟩
  · rcases List.mem_or_eq_of_mem_set hz with hz | rfl
    · exact ⟨(h.q.frac z hz).1.grown h.own (by decide) hg, (h.q.frac z hz).2.grown h.own (by decide) hg⟩
    · exact ⟨h1.grown h.own (by decide) hg, h2.grown h.own (by decide) hg⟩
  · rcases List.mem_or_eq_of_mem_set hz with hz | rfl
    · exact h.q.ok z hz
    · exact hok

section
variable {P : Program} {ops : Array Oper} {S : World → Prop}
/-- a special operation whose value has a form -/
theorem lOp_ex {ι : Type} {T : World → Prop} {i : Nat} {o : Oper} {a : Act} {K : (World → Prop) → Act → Prop} (f : ι → Value) (T' : ι → World → Prop) (hf : ∀ x y, f x = f y → x = y) (hi : ops[i]? = some o) (hg : o.guard = none) (h1 : ∀ x, Stable (T' x)) (h2 : ∀ x w, T' x w → S w)
    (hv : ∀ w, T w → sUpon P (fun u w' => ∃ x, u = f x ∧ T' x w') ((execOp a.eval o).run P w)) (hk : ∀ x, K (T' x) (a.put o.dst (f x))) : lOp P ops S T i K a := by
  refine lOp_special' hi (fun u w' => ∃ x, u = f x ∧ T' x w') hg ?_ ?_ hv ?_
  · rintro u w w' ⟨x, rfl, h⟩ hb; exact ⟨x, rfl, h1 x _ _ h hb⟩
  · rintro u w ⟨x, rfl, h⟩; exact h2 x w h
  · rintro u ⟨w, x, rfl, hw⟩
    have e : (fun w' => ∃ y, f x = f y ∧ T' y w') = T' x := by
      funext w
      refine propext ⟨?_, fun h => ⟨x, rfl, h⟩⟩
      rintro ⟨y, h, hw⟩
      rw [hf x y h]
      exact hw
    rw [e]
    exact hk x
end

/-- what the loads of Put see -/
structure Pb (qb bx : Nat) (v : Value) (c : Array Value) (wx : World) : Prop where
  c1 : wx.cell? ⟨qb, 1, none⟩ = some v
  box : Holds wx bx c
/-- the queue, and the box -/
structure Pu (B qb bx : Nat) (slots : Int) (L : List En) (v : Value) (c : Array Value) (w wx : World) : Prop where
  q : Qp B qb slots L wx
  see : Pb qb bx v c wx
  bty : TyB wx bx 29
  t : Qt B w wx
theorem Pu.keep {B qb bx : Nat} {slots : Int} {L : List En} {v : Value} {c : Array Value} {w wx wy : World} (h : Pu B qb bx slots L v c w wx) (hb : Below wx.heap.size wx wy) : Pu B qb bx slots L v c w wy :=
  ⟨h.q.keep hb, ⟨(hb.cell (p := ⟨qb, 1, none⟩) h.q.ty.lt).trans h.see.c1, h.see.box.keep hb⟩, h.bty.keep hb, h.t.keep hb⟩
/-- .. and the cloned risk -/
structure Pv (B qb bx : Nat) (slots : Int) (L : List En) (v : Value) (c : Array Value) (w : World) (y : En) (wx : World) : Prop where
  pu : Pu B qb bx slots L v c w wx
  num : Ru wx y.num (limb y.j.n)
  den : Ru wx y.den (limb y.j.d)
theorem Pv.keep {B qb bx : Nat} {slots : Int} {L : List En} {v : Value} {c : Array Value} {w wx wy : World} {y : En} (h : Pv B qb bx slots L v c w y wx) (hb : Below wx.heap.size wx wy) : Pv B qb bx slots L v c w y wy := ⟨h.pu.keep hb, h.num.keep hb, h.den.keep hb⟩
/-- .. and the new entry's own block -/
structure Pw (B qb bx : Nat) (slots : Int) (L : List En) (v : Value) (c : Array Value) (w : World) (y : En) (b : Nat) (wx : World) : Prop where
  pv : Pv B qb bx slots L v c w y wx
  rd : Rd eE wx (.slice (some ⟨b, 0, none⟩) 1 1) [y]
theorem Pw.keep {B qb bx : Nat} {slots : Int} {L : List En} {v : Value} {c : Array Value} {w wx wy : World} {y : En} {b : Nat} (h : Pw B qb bx slots L v c w y b wx) (hb : Below wx.heap.size wx wy) : Pw B qb bx slots L v c w y b wy := ⟨h.pv.keep hb, h.rd.keep hb⟩
theorem Pv.build {B qb bx : Nat} {slots : Int} {L : List En} {v : Value} {c : Array Value} {w wx : World} {y : En} (h : Pv B qb bx slots L v c w y wx) : Pw B qb bx slots L v c w y wx.heap.size (wx.alloc (.cells (ec y) 76)) := by
  refine ⟨h.keep (below_alloc _ _), ?_⟩
  have := Rd.new (E := eE) wx [y] (by simp) 76
  have e1 : eE.flat [y] = eE.f y := by simp [Enc.flat]
  rw [e1] at this
  exact this
/-- the row has grown -/
structure Px (B qb bx : Nat) (slots : Int) (L : List En) (v : Value) (c : Array Value) (w : World) (y : En) (u : Value) (wx : World) : Prop where
  head : Qh B qb slots wx
  see : Pb qb bx v c wx
  row : wx.ownsRow B 76 9 u (L ++ [y]).length (eE.flat (L ++ [y]))
  frac : ∀ x ∈ L ++ [y], Ru wx x.num (limb x.j.n) ∧ Ru wx x.den (limb x.j.d)
  t : Qt B w wx
theorem Px.keep {B qb bx : Nat} {slots : Int} {L : List En} {v u : Value} {c : Array Value} {w wx wy : World} {y : En} (h : Px B qb bx slots L v c w y u wx) (hb : Below wx.heap.size wx wy) : Px B qb bx slots L v c w y u wy :=
  ⟨h.head.keep hb, ⟨(hb.cell (p := ⟨qb, 1, none⟩) h.head.ty.lt).trans h.see.c1, h.see.box.keep hb⟩, owns_below h.row hb, fun x hx => ⟨(h.frac x hx).1.keep hb, (h.frac x hx).2.keep hb⟩, h.t.keep hb⟩
theorem Px.put {B qb bx : Nat} {slots : Int} {L : List En} {v u : Value} {c : Array Value} {w wx : World} {y : En} (h : Px B qb bx slots L v c w y u wx) (hok : ∀ x ∈ L ++ [y], OkJ x.j) : Qp B qb slots (L ++ [y]) (wx.setCell ⟨qb, 1, none⟩ u) ∧ Qt B w (wx.setCell ⟨qb, 1, none⟩ u) :=
  ⟨h.head.put h.row h.frac hok, h.t.set (.inr h.head.ty) h.head.base _ _⟩

theorem sUpon_grow {B qb bx : Nat} {slots : Int} {L : List En} {v : Value} {c : Array Value} {w W : World} {y : En} {b : Nat} {o : Oper} {a : Act} (s x : Operand)
    (ho : o.op = .call { callee := .builtin .append, args := #[s, x], argTypes := #[66, 66] }) (hs : a.eval s = v) (hx : a.eval x = .slice (some ⟨b, 0, none⟩) 1 1) (h : Pw B qb bx slots L v c w y b W) (hB : B ≤ W.heap.size) (hn : L.length ≤ 1000) :
    sUpon Tryz.prog (fun u w' => ∃ p : Option Addr × Nat, u = .slice p.1 (L ++ [y]).length p.2 ∧ Px B qb bx slots L v c w y (.slice p.1 (L ++ [y]).length p.2) w') ((execOp a.eval o).run Tryz.prog W) := by
  obtain ⟨v0, q1, q2⟩ := h.pv.pu.q.row
  have e := q1.symm.trans h.pv.pu.see.c1
  cases e
  have how := ow_cut q2 hB
  obtain ⟨v', w', hr, h2, h3⟩ := append_run2 elt53 how h.rd (by simp; omega) o.type
  have hrow := h2.row
  rw [cut_size hB] at hrow
  obtain ⟨p, cap, rfl⟩ := h2.val
  have hqb : w'.heap[qb]? = W.heap[qb]? := h3.by_.block qb h.pv.pu.q.ty.lt fun e => absurd ((owns_ty q2 e.symm).uniq h.pv.pu.q.ty) (by decide)
  have hbx : w'.heap[bx]? = W.heap[bx]? := h3.by_.block bx h.pv.pu.bty.lt fun e => absurd ((owns_ty q2 e.symm).uniq h.pv.pu.bty) (by decide)
  have hpx : Px B qb bx slots L v c w y (.slice p (L ++ [y]).length cap) w' := by
    refine ⟨h.pv.pu.q.head.same hqb, ⟨(World.cell?_of_block (a := ⟨qb, 1, none⟩) hqb).trans h.pv.pu.see.c1, h.pv.pu.see.box.same h3.by_.size hbx⟩, hrow, fun z hz => ?_, ?_⟩
    · rcases List.mem_append.1 hz with hz | hz
      · exact ⟨(h.pv.pu.q.frac z hz).1.grown q2 (by decide) h3.by_, (h.pv.pu.q.frac z hz).2.grown q2 (by decide) h3.by_⟩
      · rw [List.mem_singleton.1 hz]
        exact ⟨h.pv.num.grown q2 (by decide) h3.by_, h.pv.den.grown q2 (by decide) h3.by_⟩
    · have hg := h3.by_
      cases hv : v.ownBlock with
      | none =>
        rw [hv] at hg
        exact h.pv.pu.t.grown hg (fun k hk => by cases hk)
      | some g =>
        rw [hv] at hg
        exact h.pv.pu.t.own hg (owns_ty q2 hv) (q2.lt g hv).1
  unfold execOp
  simp only [ho, resolve, invoke, builtin, Sem.run_bind, Sem.run_pure, Result.andThen_ok, List.map_toArray, List.map_cons, List.map_nil, hs, hx, hr]
  exact ⟨(p, cap), rfl, hpx⟩
end Go.Proofs.YtgnmolleaengaaaGreat

/- The walk of Put. -/
namespace Go.Proofs.YtgnmolleaengaaaGreat
open Go Go.RowKit

/-- an entry y with the job j and the marks of m, put into the row by f -/
def PutPost (B qb : Nat) (slots : Int) (j : Jb) (run held : Bool) (f : En → List En) (w : World) (e : Ending) (w' : World) : Prop :=
  e = .returned (.int .i64 0) ∧ ∃ y L', y.j = j ∧ y.run = run ∧ y.held = held ∧ L'.Perm (f y) ∧ L'.Pairwise (fun x y => ltE y x = false) ∧ Qp B qb slots L' w' ∧ Qt B w w'


set_option maxRecDepth 20000 in
set_option maxHeartbeats 4000000 in
theorem put_old {B qb : Nat} {slots : Int} {L : List En} {w : World} (h : Qp B qb slots L w) (hB : B ≤ w.heap.size) (hl : L.length ≤ 19) {j : Jb} {an ad : Option Addr} {anc adc : Nat} (oj : OkJ j) (h1 : Ru w (.slice an (limb j.n).length anc) (limb j.n)) (h2 : Ru w (.slice ad (limb j.d).length adc) (limb j.d))
    {i : Nat} {x : En} (hi : idxF (j.vol, j.frag) L = (i : Int)) (hx : L[i]? = some x) :
    Calls Tryz.prog 16 #[.pointer (some ⟨qb, 0, none⟩), jv j (.slice an (limb j.n).length anc) (.slice ad (limb j.d).length adc)] w (PutPost B qb slots j x.run x.held (fun y => L.set i y) w) := by
  have HX := Lib.hid hx
  have hil : i < L.length := (List.getElem?_eq_some_iff.1 hx).1
  clear hx
  (
    have HBX := Lib.hid (Holds.new w (jc j (.slice an (limb j.n).length anc) (.slice ad (limb j.d).length adc)) 29)
    have HTY := Lib.hid (TyB.new w (jc j (.slice an (limb j.n).length anc) (.slice ad (limb j.d).length adc)) 29)
    have hba := below_alloc w (.cells (jc j (.slice an (limb j.n).length anc) (.slice ad (limb j.d).length adc)) 29)
    have HBA := Lib.hid hba
    have HR1 := Lib.hid (h1.keep hba)
    have HR2 := Lib.hid (h2.keep hba)
    have HQ0 := Lib.hid (h.keep hba)
    have KV := Lib.hid (valid_as oj HR1.out.rd HR2.out.rd)
    have HOJ := Lib.hid oj
    have HL := Lib.hid hl
    have HI := Lib.hid hi
    have HBB := Lib.hid hB
    clear h h1 h2 hba oj hi hB
    obtain ⟨a1, a2, a3, a4, n1, d1⟩ := j
    unfold PutPost
    go_enter Tryz.func16, Tryz.ntmps16
    obtain ⟨s0, s1, s2, s3, s4, s5, s6, -⟩ := HBX.out.lay7
    go_wp2_with (first
      | (go_at_call 15; (with_reducible refine KV.out.mono ?_); rintro e w1 ⟨rfl, hb⟩; have HB1 := Lib.hid (HBA.out.trans (hb.mono HBA.out.size)); have HX1 := Lib.hid (HBX.out.keep hb); have HT1 := Lib.hid (HTY.out.keep hb); have HQ1 := Lib.hid (HQ0.out.keep hb); have HU1 := Lib.hid (HR1.out.keep hb); have HV1 := Lib.hid (HR2.out.keep hb); clear s0 s1 s2 s3 s4 s5 s6; obtain ⟨s0, s1, s2, s3, s4, s5, s6, -⟩ := HX1.out.lay7; clear hb)
      | (go_at_call 34; (with_reducible refine (key_as ⟨a1, a2, a3, a4, n1, d1⟩ _ _ _ _ _ _ _).mono ?_); rintro e w2 ⟨rfl, hb⟩; have HB2 := Lib.hid (HB1.out.trans (hb.mono HB1.out.size)); have HX2 := Lib.hid (HX1.out.keep hb); have HT2 := Lib.hid (HT1.out.keep hb); have HQ2 := Lib.hid (HQ1.out.keep hb); have HU2 := Lib.hid (HU1.out.keep hb); have HV2 := Lib.hid (HV1.out.keep hb); have KF := Lib.hid (find_as HQ2.out (by have := HL.out; omega) (a1, a2) HI.out); clear s0 s1 s2 s3 s4 s5 s6; clear hb)
      | (go_at_call 33; (with_reducible refine KF.out.mono ?_); rintro e w3 ⟨rfl, hb⟩; have HB3 := Lib.hid (HB2.out.trans (hb.mono HB2.out.size)); have HX3 := Lib.hid (HX2.out.keep hb); have HT3 := Lib.hid (HT2.out.keep hb); have HQ3 := Lib.hid (HQ2.out.keep hb); have HU3 := Lib.hid (HU2.out.keep hb); have HV3 := Lib.hid (HV2.out.keep hb); clear hb)))
  obtain ⟨n, hn⟩ : ∃ n, L.length = n := ⟨_, rfl⟩
  have HN := Lib.hid hn
  obtain ⟨g, cap, hqa⟩ := HQ3.out.at hn (by omega)
  have HPU := Lib.hid (show Pv B qb w.heap.size slots L (.slice (some ⟨g, 0, none⟩) n cap) (jc ⟨a1, a2, a3, a4, n1, d1⟩ (.slice an (limb n1).length anc) (.slice ad (limb d1).length adc)) w ⟨⟨a1, a2, a3, a4, n1, d1⟩, an, anc, ad, adc, x.run, x.held⟩ w3 from ⟨⟨HQ3.out, ⟨hqa.c1, HX3.out⟩, HT3.out, Qt.of_below HB3.out B⟩, HU3.out, HV3.out⟩)
  have hc := hqa.caps
  have hc1 := hc.1
  have hc2 := hc.2
  rw [hn] at hl hil
  clear hn hqa hc
  refine wp_region_pick_tail (Pb qb w.heap.size (.slice (some ⟨g, 0, none⟩) n cap) (jc ⟨a1, a2, a3, a4, n1, d1⟩ (.slice an (limb n1).length anc) (.slice ad (limb d1).length adc))) (Pv B qb w.heap.size slots L (.slice (some ⟨g, 0, none⟩) n cap) (jc ⟨a1, a2, a3, a4, n1, d1⟩ (.slice an (limb n1).length anc) (.slice ad (limb d1).length adc)) w ⟨⟨a1, a2, a3, a4, n1, d1⟩, an, anc, ad, adc, x.run, x.held⟩) [0, 1, 2, 3, 4, 5] 1 7 (by kernel_rfl) ?_ (fun _ _ h hb => h.keep hb) (fun _ h => h.pu.see) HPU.out ?_
  · kernel_rfl
  repeat (apply pRow_plain
          · exact rfl
          · exact rfl
          · intro wg hg
            ((obtain ⟨s0, s1, s2, s3, s4, s5, s6, -⟩ := hg.box.lay7; have dd1 := hg.c1))
            go_simp
            first
              | exact rfl
              | exact Below.refl _ _
              | exact ⟨Below.refl _ _, rfl⟩
              | ((fail))
          intro K hK
          go_simp
          refine hK _ ?_
          clear hK K)
  refine pRow_nil ?_
  refine lAnyL_step [6] ?_ (by simp) (by decide) ?_
  · kernel_rfl
  intro k hk
  obtain rfl : k = 6 := by simpa using hk
  refine lOp_ex (ι := Option Addr × Nat × Option Addr × Nat) (fun p => jv ⟨a1, a2, a3, a4, n1, d1⟩ (.slice p.1 (limb n1).length p.2.1) (.slice p.2.2.1 (limb d1).length p.2.2.2)) (fun p => Pv B qb w.heap.size slots L (.slice (some ⟨g, 0, none⟩) n cap) (jc ⟨a1, a2, a3, a4, n1, d1⟩ (.slice an (limb n1).length anc) (.slice ad (limb d1).length adc)) w ⟨⟨a1, a2, a3, a4, n1, d1⟩, p.1, p.2.1, p.2.2.1, p.2.2.2, x.run, x.held⟩) ?_ rfl rfl (fun _ _ _ h hb => h.keep hb) (fun _ _ h => h.pu.see) ?_ ?_
  · rintro ⟨p1, p2, p3, p4⟩ ⟨q1, q2, q3, q4⟩ he
    cases he
    rfl
  · intro wg hg
    go_simp
    with_reducible refine (clone_as (j := ⟨a1, a2, a3, a4, n1, d1⟩) hg.num.rd hg.den.rd).mono ?_
    rintro e w' ⟨pa, pc, qa, qc, rfl, r1, r2, hb⟩
    exact ⟨_, rfl, pa, pc, qa, qc, rfl, hg.pu.keep hb, r1, r2⟩
  rintro ⟨pa, pc, qa, qc⟩
  go_simp
  refine ⟨?_, ?_⟩
  · kernel_rfl
  intro wg hg
  have hqa : QAt B qb g cap slots L n wg := ⟨hg.pu.q, HN.out, hg.pu.see.c1⟩
  have HQA := Lib.hid hqa
  have HG := Lib.hid hg
  have HJOB := Lib.hid (hqa.job (y := ⟨⟨a1, a2, a3, a4, n1, d1⟩, pa, pc, qa, qc, x.run, x.held⟩) HX.out (vs := [.int .i64 a1, .int .i64 a2, .int .i64 a3, .bool false, .slice pa (limb n1).length pc, .slice qa (limb d1).length qc, .int .i64 a4]) rfl (by simp) hg.num hg.den HOJ.out)
  obtain ⟨b0, b1, b2, b3, b4, b5, b6, -⟩ := hqa.entry HX.out
  have f0 := hqa.cold (i * 9)
  have f1 := hqa.cold (i * 9 + 1)
  have f2 := hqa.cold (i * 9 + 2)
  have f3 := hqa.cold (i * 9 + 3)
  have f4 := hqa.cold (i * 9 + 4)
  have f5 := hqa.cold (i * 9 + 5)
  have f6 := hqa.cold (i * 9 + 6)
  have dd1 := hqa.c1
  have hne := hqa.ne
  clear hg hqa
  have HST := Lib.hid (stable_as HJOB.out.1.q (by rw [List.length_set]; exact HL.out) HJOB.out.1.c1)
  have HTT := Lib.hid (HJOB.out.2 w HG.out.pu.t)
  simp only [World.setCells, Nat.add_assoc, Nat.reduceAdd] at HST HTT
  clear HJOB
  go_wp2_with (go_at_call 36; (with_reducible refine HST.out.mono ?_); rintro e w5 ⟨rfl, L', hp, hs, hq, ht⟩; have HP := Lib.hid hp; have HSS := Lib.hid hs; have HQ5 := Lib.hid hq; have HT5 := Lib.hid ht; clear hp hs hq ht)
  go_ret
  exact ⟨rfl, ⟨⟨a1, a2, a3, a4, n1, d1⟩, pa, pc, qa, qc, x.run, x.held⟩, L', rfl, rfl, rfl, HP.out, HSS.out, HQ5.out, HTT.out.trans HT5.out⟩

set_option maxRecDepth 20000 in
set_option maxHeartbeats 4000000 in
theorem put_new {B qb : Nat} {slots : Int} {L : List En} {w : World} (h : Qp B qb slots L w) (hB : B ≤ w.heap.size) (hl : L.length ≤ 18) {j : Jb} {an ad : Option Addr} {anc adc : Nat} (oj : OkJ j) (h1 : Ru w (.slice an (limb j.n).length anc) (limb j.n)) (h2 : Ru w (.slice ad (limb j.d).length adc) (limb j.d))
    (hi : idxF (j.vol, j.frag) L = -1) :
    Calls Tryz.prog 16 #[.pointer (some ⟨qb, 0, none⟩), jv j (.slice an (limb j.n).length anc) (.slice ad (limb j.d).length adc)] w (PutPost B qb slots j false false (fun y => L ++ [y]) w) := by
  (
    have HBX := Lib.hid (Holds.new w (jc j (.slice an (limb j.n).length anc) (.slice ad (limb j.d).length adc)) 29)
    have HTY := Lib.hid (TyB.new w (jc j (.slice an (limb j.n).length anc) (.slice ad (limb j.d).length adc)) 29)
    have hba := below_alloc w (.cells (jc j (.slice an (limb j.n).length anc) (.slice ad (limb j.d).length adc)) 29)
    have HBA := Lib.hid hba
    have HR1 := Lib.hid (h1.keep hba)
    have HR2 := Lib.hid (h2.keep hba)
    have HQ0 := Lib.hid (h.keep hba)
    have KV := Lib.hid (valid_as oj HR1.out.rd HR2.out.rd)
    have HOJ := Lib.hid oj
    have HL := Lib.hid hl
    have HI := Lib.hid hi
    have HBB := Lib.hid hB
    clear h h1 h2 hba oj hi hB
    obtain ⟨a1, a2, a3, a4, n1, d1⟩ := j
    unfold PutPost
    go_enter Tryz.func16, Tryz.ntmps16
    obtain ⟨s0, s1, s2, s3, s4, s5, s6, -⟩ := HBX.out.lay7
    go_wp2_with (first
      | (go_at_call 15; (with_reducible refine KV.out.mono ?_); rintro e w1 ⟨rfl, hb⟩; have HB1 := Lib.hid (HBA.out.trans (hb.mono HBA.out.size)); have HX1 := Lib.hid (HBX.out.keep hb); have HT1 := Lib.hid (HTY.out.keep hb); have HQ1 := Lib.hid (HQ0.out.keep hb); have HU1 := Lib.hid (HR1.out.keep hb); have HV1 := Lib.hid (HR2.out.keep hb); clear s0 s1 s2 s3 s4 s5 s6; obtain ⟨s0, s1, s2, s3, s4, s5, s6, -⟩ := HX1.out.lay7; clear hb)
      | (go_at_call 34; (with_reducible refine (key_as ⟨a1, a2, a3, a4, n1, d1⟩ _ _ _ _ _ _ _).mono ?_); rintro e w2 ⟨rfl, hb⟩; have HB2 := Lib.hid (HB1.out.trans (hb.mono HB1.out.size)); have HX2 := Lib.hid (HX1.out.keep hb); have HT2 := Lib.hid (HT1.out.keep hb); have HQ2 := Lib.hid (HQ1.out.keep hb); have HU2 := Lib.hid (HU1.out.keep hb); have HV2 := Lib.hid (HV1.out.keep hb); have KF := Lib.hid (find_as HQ2.out (by have := HL.out; omega) (a1, a2) HI.out); clear s0 s1 s2 s3 s4 s5 s6; clear hb)
      | (go_at_call 33; (with_reducible refine KF.out.mono ?_); rintro e w3 ⟨rfl, hb⟩; have HB3 := Lib.hid (HB2.out.trans (hb.mono HB2.out.size)); have HX3 := Lib.hid (HX2.out.keep hb); have HT3 := Lib.hid (HT2.out.keep hb); have HQ3 := Lib.hid (HQ2.out.keep hb); have HU3 := Lib.hid (HU2.out.keep hb); have HV3 := Lib.hid (HV2.out.keep hb); clear hb)))
  obtain ⟨v, hv1, -⟩ := HQ3.out.row
  have HPU := Lib.hid (show Pv B qb w.heap.size slots L v (jc ⟨a1, a2, a3, a4, n1, d1⟩ (.slice an (limb n1).length anc) (.slice ad (limb d1).length adc)) w ⟨⟨a1, a2, a3, a4, n1, d1⟩, an, anc, ad, adc, false, false⟩ w3 from ⟨⟨HQ3.out, ⟨hv1, HX3.out⟩, HT3.out, Qt.of_below HB3.out B⟩, HU3.out, HV3.out⟩)
  have HB4 := Lib.hid (show B ≤ w.heap.size from HBB.out)
  clear hv1
  refine wp_region_pick_tail (Pb qb w.heap.size v (jc ⟨a1, a2, a3, a4, n1, d1⟩ (.slice an (limb n1).length anc) (.slice ad (limb d1).length adc))) (Pv B qb w.heap.size slots L v (jc ⟨a1, a2, a3, a4, n1, d1⟩ (.slice an (limb n1).length anc) (.slice ad (limb d1).length adc)) w ⟨⟨a1, a2, a3, a4, n1, d1⟩, an, anc, ad, adc, false, false⟩) [0, 1, 2, 3, 4, 5] 4 10 (by kernel_rfl) ?_ (fun _ _ h hb => h.keep hb) (fun _ h => h.pu.see) HPU.out ?_
  · kernel_rfl
  repeat (apply pRow_plain
          · exact rfl
          · exact rfl
          · intro wg hg
            ((obtain ⟨s0, s1, s2, s3, s4, s5, s6, -⟩ := hg.box.lay7; have dd1 := hg.c1))
            go_simp
            first
              | exact rfl
              | exact Below.refl _ _
              | exact ⟨Below.refl _ _, rfl⟩
              | ((fail))
          intro K hK
          go_simp
          refine hK _ ?_
          clear hK K)
  refine pRow_nil ?_
  refine lAnyL_step [6] ?_ (by simp) (by decide) ?_
  · kernel_rfl
  intro k hk
  obtain rfl : k = 6 := by simpa using hk
  refine lOp_ex (ι := Option Addr × Nat × Option Addr × Nat) (fun p => jv ⟨a1, a2, a3, a4, n1, d1⟩ (.slice p.1 (limb n1).length p.2.1) (.slice p.2.2.1 (limb d1).length p.2.2.2)) (fun p => Pv B qb w.heap.size slots L v (jc ⟨a1, a2, a3, a4, n1, d1⟩ (.slice an (limb n1).length anc) (.slice ad (limb d1).length adc)) w ⟨⟨a1, a2, a3, a4, n1, d1⟩, p.1, p.2.1, p.2.2.1, p.2.2.2, false, false⟩) ?_ rfl rfl (fun _ _ _ h hb => h.keep hb) (fun _ _ h => h.pu.see) ?_ ?_
  · rintro ⟨p1, p2, p3, p4⟩ ⟨q1, q2, q3, q4⟩ he
    cases he
    rfl
  · intro wg hg
    go_simp
    with_reducible refine (clone_as (j := ⟨a1, a2, a3, a4, n1, d1⟩) hg.num.rd hg.den.rd).mono ?_
    rintro e w' ⟨pa, pc, qa, qc, rfl, r1, r2, hb⟩
    exact ⟨_, rfl, pa, pc, qa, qc, rfl, hg.pu.keep hb, r1, r2⟩
  rintro ⟨pa, pc, qa, qc⟩
  go_simp
  refine lAnyL_step [7] ?_ (by simp) (by decide) ?_
  · kernel_rfl
  intro k hk
  obtain rfl : k = 7 := by simpa using hk
  refine lOp_same (.agg (ec (En.mk ⟨a1, a2, a3, a4, n1, d1⟩ pa pc qa qc false false))) rfl rfl ?_ ?_
  · intro wg hg
    go_simp
    try exact Below.refl _ _
  go_simp
  refine lAnyL_step [8] ?_ (by simp) (by decide) ?_
  · kernel_rfl
  intro k hk
  obtain rfl : k = 8 := by simpa using hk
  refine lOp_ex (ι := Nat) (fun b => .slice (some ⟨b, 0, none⟩) 1 1) (fun b => Pw B qb w.heap.size slots L v (jc ⟨a1, a2, a3, a4, n1, d1⟩ (.slice an (limb n1).length anc) (.slice ad (limb d1).length adc)) w (En.mk ⟨a1, a2, a3, a4, n1, d1⟩ pa pc qa qc false false) b) ?_ rfl rfl (fun _ _ _ h hb => h.keep hb) (fun _ _ h => h.pv.pu.see) ?_ ?_
  · intro x y he
    cases he
    rfl
  · intro wg hg
    have HK := hg.build
    go_simp
    try exact ⟨_, rfl, HK⟩
  intro b
  go_simp
  refine lAnyL_step [9] ?_ (by simp) (by decide) ?_
  · kernel_rfl
  intro k hk
  obtain rfl : k = 9 := by simpa using hk
  refine lOp_ex (ι := Option Addr × Nat) (fun p => .slice p.1 (L ++ [En.mk ⟨a1, a2, a3, a4, n1, d1⟩ pa pc qa qc false false]).length p.2) (fun p => Px B qb w.heap.size slots L v (jc ⟨a1, a2, a3, a4, n1, d1⟩ (.slice an (limb n1).length anc) (.slice ad (limb d1).length adc)) w (En.mk ⟨a1, a2, a3, a4, n1, d1⟩ pa pc qa qc false false) (.slice p.1 (L ++ [En.mk ⟨a1, a2, a3, a4, n1, d1⟩ pa pc qa qc false false]).length p.2)) ?_ rfl rfl (fun _ _ _ h hb => h.keep hb) (fun _ _ h => h.see) ?_ ?_
  · rintro ⟨p1, p2⟩ ⟨q1, q2⟩ he
    cases he
    rfl
  · intro wg hg
    exact sUpon_grow _ _ rfl rfl rfl hg (Nat.le_of_lt (Nat.lt_of_le_of_lt hg.pv.pu.q.base hg.pv.pu.q.ty.lt)) (by have := HL.out; omega)
  rintro ⟨p, cp⟩
  go_simp
  refine ⟨?_, ?_⟩
  · kernel_rfl
  intro wg hg
  have hg' : Px B qb w.heap.size slots L v (jc ⟨a1, a2, a3, a4, n1, d1⟩ (.slice an (limb n1).length anc) (.slice ad (limb d1).length adc)) w (En.mk ⟨a1, a2, a3, a4, n1, d1⟩ pa pc qa qc false false) (.slice p (L ++ [En.mk ⟨a1, a2, a3, a4, n1, d1⟩ pa pc qa qc false false]).length cp) wg := by simpa using hg
  have HG := Lib.hid hg'
  have hok : ∀ x ∈ L ++ [En.mk ⟨a1, a2, a3, a4, n1, d1⟩ pa pc qa qc false false], OkJ x.j := fun x hx => by
    rcases List.mem_append.1 hx with hx | hx
    · exact HQ3.out.ok x hx
    · rw [List.mem_singleton.1 hx]; exact HOJ.out
  obtain ⟨hq4, ht4⟩ := hg'.put hok
  have hlen : (L ++ [En.mk ⟨a1, a2, a3, a4, n1, d1⟩ pa pc qa qc false false]).length = L.length + 1 := by simp
  rw [hlen] at hq4 ht4
  obtain ⟨u, hu⟩ := hg'.head.c1
  have hth := hg'.head.thaw 1
  have HT4 := Lib.hid ht4
  have HST := Lib.hid (stable_as hq4 (by rw [hlen]; have := HL.out; omega) (World.cell?_setCell_same _ _ _ hu))
  clear hg hg' hq4 ht4 hok hlen
  go_wp2_with (go_at_call 36; (with_reducible refine HST.out.mono ?_); rintro e w5 ⟨rfl, L', hp, hs, hq, ht⟩; have HP := Lib.hid hp; have HSS := Lib.hid hs; have HQ5 := Lib.hid hq; have HT5 := Lib.hid ht; clear hp hs hq ht)
  go_ret
  exact ⟨rfl, En.mk ⟨a1, a2, a3, a4, n1, d1⟩ pa pc qa qc false false, L', rfl, rfl, rfl, HP.out, HSS.out, HQ5.out, HT4.out.trans HT5.out⟩
end Go.Proofs.YtgnmolleaengaaaGreat
