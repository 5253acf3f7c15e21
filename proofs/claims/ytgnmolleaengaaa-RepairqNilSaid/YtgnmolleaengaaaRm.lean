/- What Put does to the row: an entry's job is replaced, or an entry is appended. -/
import Derived.Test.YtgnmolleaengaaaRl
set_option linter.unusedVariables false
set_option linter.unusedSimpArgs false
set_option linter.unnecessarySimpa false
namespace Go.Proofs.Ytgnmolleaengaaa
open Go Go.RowKit

theorem flat_job {L : List En} {i : Nat} {x y : En} (hx : L[i]? = some x) {vs : List Value} (hf : eE.f y = vs ++ (eE.f x).drop vs.length) (hv : vs.length ≤ 9) : putMany (eE.flat L) (i * 9) vs = eE.flat (L.set i y) := by
  have hi : i < L.length := (List.getElem?_eq_some_iff.1 hx).1
  have hfl : (eE.flat L).length = L.length * 9 := flat_len L
  have hfl2 : (eE.flat (L.set i y)).length = L.length * 9 := by rw [flat_len, List.length_set]; rfl
  apply List.ext_getElem?
  intro t
  rw [putMany_get _ _ _ _ (by rw [hfl]; omega)]
  by_cases ht : t < L.length * 9
  · have hq : t / 9 < L.length := by omega
    have hr : t % 9 < 9 := Nat.mod_lt _ (by decide)
    have ht2 : t / 9 * 9 + t % 9 = t := by omega
    by_cases hqi : t / 9 = i
    · have e1 := flat_get (E := eE) (L.set i y) i y (t % 9) (by simp [hi]) hr
      have e2 := flat_get (E := eE) L i x (t % 9) hx hr
      rw [show i * eE.k + t % 9 = t by show i * 9 + t % 9 = t; omega] at e1 e2
      rw [e1, e2, hf]
      by_cases hlt : t % 9 < vs.length
      · rw [if_pos (by omega), List.getElem?_append_left hlt, show t - i * 9 = t % 9 by omega]
      · rw [if_neg (by omega), List.getElem?_append_right (by omega), List.getElem?_drop, show vs.length + (t % 9 - vs.length) = t % 9 by omega]
    · have hs : (L.set i y)[t / 9]? = some L[t / 9] := by rw [List.getElem?_set_ne (fun e => hqi e.symm)]; simp [hq]
      have e1 := flat_get (E := eE) (L.set i y) (t / 9) L[t / 9] (t % 9) hs hr
      have e2 := flat_get (E := eE) L (t / 9) L[t / 9] (t % 9) (by simp [hq]) hr
      rw [show t / 9 * eE.k + t % 9 = t by show t / 9 * 9 + t % 9 = t; omega] at e1 e2
      rw [e1, e2, if_neg (by omega)]
  · rw [if_neg (by omega), List.getElem?_eq_none (by omega), List.getElem?_eq_none (by omega)]

theorem QAt.job {B qb g cap n : Nat} {slots : Int} {L : List En} {w : World} (h : QAt B qb g cap slots L n w) {i : Nat} {x y : En} (hx : L[i]? = some x) {vs : List Value} (hf : eE.f y = vs ++ (eE.f x).drop vs.length) (hv : vs.length ≤ 9)
    (h1 : Ru w y.num (limb y.j.n)) (h2 : Ru w y.den (limb y.j.d)) (hok : OkJ y.j) : QAt B qb g cap slots (L.set i y) n (w.setCells g (i * 9) vs) ∧ ∀ w0, Qt B w0 w → Qt B w0 (w.setCells g (i * 9) vs) := by
  obtain ⟨ho, hg⟩ := owns_cells vs (i * 9) _ _ h.own
  rw [flat_job hx hf hv] at ho
  have hbl : (w.setCells g (i * 9) vs).heap[qb]? = w.heap[qb]? := hg.block qb h.q.ty.lt fun e => h.ne (Option.some.inj e).symm
  have c1 := (World.cell?_of_block (a := ⟨qb, 1, none⟩) hbl).trans h.c1
  refine ⟨⟨⟨(World.cell?_of_block (a := ⟨qb, 0, none⟩) hbl).trans h.q.c0, ⟨_, c1, by rw [List.length_set, h.len]; exact ho⟩, h.q.thaw.same hbl, h.q.ty.same hbl, h.q.base, fun z hz => ?_, fun z hz => ?_⟩, by rw [List.length_set]; exact h.len, c1⟩, fun w0 ht => ht.own hg h.ty h.base⟩
  · rcases List.mem_or_eq_of_mem_set hz with hz | rfl
    · exact ⟨(h.q.frac z hz).1.grown h.own (by decide) hg, (h.q.frac z hz).2.grown h.own (by decide) hg⟩
    · exact ⟨h1.grown h.own (by decide) hg, h2.grown h.own (by decide) hg⟩
  · rcases List.mem_or_eq_of_mem_set hz with hz | rfl
    · exact h.q.ok z hz
    · exact hok

section
variable {P : Program} {ops : Array Oper} {S : World → Prop}
/-- a special operation whose value has a form -/
theorem lOp_ex {ι : Type} {T : World → Prop} {i : Nat} {o : Oper} {a : Act} {K : (World → Prop) → Act → Prop} (f : ι → Value) (T' : ι → World → Prop) (hf : ∀ x y, f x = f y → x = y) (hi : ops[i]? = some o) (hg : o.guard = none) (h1 : ∀ x, Stable (T' x)) (h2 : ∀ x w, T' x w → S w)
    (hv : ∀ w, T w → sUpon P (fun u w' => ∃ x, u = f x ∧ T' x w') ((execOp a.eval o).run P w)) (hk : ∀ x, K (T' x) (a.put o.dst (f x))) : lOp P ops S T i K a := by
  refine lOp_special' hi (fun u w' => ∃ x, u = f x ∧ T' x w') hg ?_ ?_ hv ?_
  · rintro u w w' ⟨x, rfl, h⟩ hb; exact ⟨x, rfl, h1 x _ _ h hb⟩
  · rintro u w ⟨x, rfl, h⟩; exact h2 x w h
  · rintro u ⟨w, x, rfl, hw⟩
    have e : (fun w' => ∃ y, f x = f y ∧ T' y w') = T' x := by
      funext w
      refine propext ⟨?_, fun h => ⟨x, rfl, h⟩⟩
      rintro ⟨y, h, hw⟩
      rw [hf x y h]
      exact hw
    rw [e]
    exact hk x
end

/-- what the loads of Put see -/
structure Pb (qb bx : Nat) (v : Value) (c : Array Value) (wx : World) : Prop where
  c1 : wx.cell? ⟨qb, 1, none⟩ = some v
  box : Holds wx bx c
/-- the queue, and the box -/
structure Pu (B qb bx : Nat) (slots : Int) (L : List En) (v : Value) (c : Array Value) (w wx : World) : Prop where
  q : Qp B qb slots L wx
  see : Pb qb bx v c wx
  bty : TyB wx bx 33
  t : Qt B w wx
theorem Pu.keep {B qb bx : Nat} {slots : Int} {L : List En} {v : Value} {c : Array Value} {w wx wy : World} (h : Pu B qb bx slots L v c w wx) (hb : Below wx.heap.size wx wy) : Pu B qb bx slots L v c w wy :=
  ⟨h.q.keep hb, ⟨(hb.cell (p := ⟨qb, 1, none⟩) h.q.ty.lt).trans h.see.c1, h.see.box.keep hb⟩, h.bty.keep hb, h.t.keep hb⟩
/-- .. and the cloned risk -/
structure Pv (B qb bx : Nat) (slots : Int) (L : List En) (v : Value) (c : Array Value) (w : World) (y : En) (wx : World) : Prop where
  pu : Pu B qb bx slots L v c w wx
  num : Ru wx y.num (limb y.j.n)
  den : Ru wx y.den (limb y.j.d)
theorem Pv.keep {B qb bx : Nat} {slots : Int} {L : List En} {v : Value} {c : Array Value} {w wx wy : World} {y : En} (h : Pv B qb bx slots L v c w y wx) (hb : Below wx.heap.size wx wy) : Pv B qb bx slots L v c w y wy := ⟨h.pu.keep hb, h.num.keep hb, h.den.keep hb⟩
/-- .. and the new entry's own block -/
structure Pw (B qb bx : Nat) (slots : Int) (L : List En) (v : Value) (c : Array Value) (w : World) (y : En) (b : Nat) (wx : World) : Prop where
  pv : Pv B qb bx slots L v c w y wx
  rd : Rd eE wx (.slice (some ⟨b, 0, none⟩) 1 1) [y]
theorem Pw.keep {B qb bx : Nat} {slots : Int} {L : List En} {v : Value} {c : Array Value} {w wx wy : World} {y : En} {b : Nat} (h : Pw B qb bx slots L v c w y b wx) (hb : Below wx.heap.size wx wy) : Pw B qb bx slots L v c w y b wy := ⟨h.pv.keep hb, h.rd.keep hb⟩
theorem Pv.build {B qb bx : Nat} {slots : Int} {L : List En} {v : Value} {c : Array Value} {w wx : World} {y : En} (h : Pv B qb bx slots L v c w y wx) : Pw B qb bx slots L v c w y wx.heap.size (wx.alloc (.cells (ec y) 60)) := by
  refine ⟨h.keep (below_alloc _ _), ?_⟩
  have := Rd.new (E := eE) wx [y] (by simp) 60
  have e1 : eE.flat [y] = eE.f y := by simp [Enc.flat]
  rw [e1] at this
  exact this
/-- the row has grown -/
structure Px (B qb bx : Nat) (slots : Int) (L : List En) (v : Value) (c : Array Value) (w : World) (y : En) (u : Value) (wx : World) : Prop where
  head : Qh B qb slots wx
  see : Pb qb bx v c wx
  row : wx.ownsRow B 60 9 u (L ++ [y]).length (eE.flat (L ++ [y]))
  frac : ∀ x ∈ L ++ [y], Ru wx x.num (limb x.j.n) ∧ Ru wx x.den (limb x.j.d)
  t : Qt B w wx
theorem Px.keep {B qb bx : Nat} {slots : Int} {L : List En} {v u : Value} {c : Array Value} {w wx wy : World} {y : En} (h : Px B qb bx slots L v c w y u wx) (hb : Below wx.heap.size wx wy) : Px B qb bx slots L v c w y u wy :=
  ⟨h.head.keep hb, ⟨(hb.cell (p := ⟨qb, 1, none⟩) h.head.ty.lt).trans h.see.c1, h.see.box.keep hb⟩, owns_below h.row hb, fun x hx => ⟨(h.frac x hx).1.keep hb, (h.frac x hx).2.keep hb⟩, h.t.keep hb⟩
theorem Px.put {B qb bx : Nat} {slots : Int} {L : List En} {v u : Value} {c : Array Value} {w wx : World} {y : En} (h : Px B qb bx slots L v c w y u wx) (hok : ∀ x ∈ L ++ [y], OkJ x.j) : Qp B qb slots (L ++ [y]) (wx.setCell ⟨qb, 1, none⟩ u) ∧ Qt B w (wx.setCell ⟨qb, 1, none⟩ u) :=
  ⟨h.head.put h.row h.frac hok, h.t.set (.inr h.head.ty) h.head.base _ _⟩

theorem sUpon_grow {B qb bx : Nat} {slots : Int} {L : List En} {v : Value} {c : Array Value} {w W : World} {y : En} {b : Nat} {o : Oper} {a : Act} (s x : Operand)
    (ho : o.op = .call { callee := .builtin .append, args := #[s, x], argTypes := #[53, 53] }) (hs : a.eval s = v) (hx : a.eval x = .slice (some ⟨b, 0, none⟩) 1 1) (h : Pw B qb bx slots L v c w y b W) (hB : B ≤ W.heap.size) (hn : L.length ≤ 1000) :
    sUpon Try.prog (fun u w' => ∃ p : Option Addr × Nat, u = .slice p.1 (L ++ [y]).length p.2 ∧ Px B qb bx slots L v c w y (.slice p.1 (L ++ [y]).length p.2) w') ((execOp a.eval o).run Try.prog W) := by
  obtain ⟨v0, q1, q2⟩ := h.pv.pu.q.row
  have e := q1.symm.trans h.pv.pu.see.c1
  cases e
  have how := ow_cut q2 hB
  obtain ⟨v', w', hr, h2, h3⟩ := append_run2 elt53 how h.rd (by simp; omega) o.type
  have hrow := h2.row
  rw [cut_size hB] at hrow
  obtain ⟨p, cap, rfl⟩ := h2.val
  have hqb : w'.heap[qb]? = W.heap[qb]? := h3.by_.block qb h.pv.pu.q.ty.lt fun e => absurd ((owns_ty q2 e.symm).uniq h.pv.pu.q.ty) (by decide)
  have hbx : w'.heap[bx]? = W.heap[bx]? := h3.by_.block bx h.pv.pu.bty.lt fun e => absurd ((owns_ty q2 e.symm).uniq h.pv.pu.bty) (by decide)
  have hpx : Px B qb bx slots L v c w y (.slice p (L ++ [y]).length cap) w' := by
    refine ⟨h.pv.pu.q.head.same hqb, ⟨(World.cell?_of_block (a := ⟨qb, 1, none⟩) hqb).trans h.pv.pu.see.c1, h.pv.pu.see.box.same h3.by_.size hbx⟩, hrow, fun z hz => ?_, ?_⟩
    · rcases List.mem_append.1 hz with hz | hz
      · exact ⟨(h.pv.pu.q.frac z hz).1.grown q2 (by decide) h3.by_, (h.pv.pu.q.frac z hz).2.grown q2 (by decide) h3.by_⟩
      · rw [List.mem_singleton.1 hz]
        exact ⟨h.pv.num.grown q2 (by decide) h3.by_, h.pv.den.grown q2 (by decide) h3.by_⟩
    · have hg := h3.by_
      cases hv : v.ownBlock with
      | none =>
        rw [hv] at hg
        exact h.pv.pu.t.grown hg (fun k hk => by cases hk)
      | some g =>
        rw [hv] at hg
        exact h.pv.pu.t.own hg (owns_ty q2 hv) (q2.lt g hv).1
  unfold execOp
  simp only [ho, resolve, invoke, builtin, Sem.run_bind, Sem.run_pure, Result.andThen_ok, List.map_toArray, List.map_cons, List.map_nil, hs, hx, hr]
  exact ⟨(p, cap), rfl, hpx⟩
end Go.Proofs.Ytgnmolleaengaaa
