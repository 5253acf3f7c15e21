/- Two slices of rows that one drawn region builds, its two appends in any order. -/
import Derived.Test.YtojfeldafbabeaaLp
import Derived.Test.YtojfeldafbabeaaTw
import Derived.Test.YtojfeldafbabeaaDe
set_option linter.unusedVariables false
set_option linter.unusedSimpArgs false
set_option linter.unnecessarySimpa false
namespace Go.Proofs.Ytojfeldafbabeaa
open Go.RowKit Go.Mem Go.Deep

structure TT (w0 : World) (B : Nat) (va : Value) (vsa : List Value) (A : List (List Nat)) (vr : Value) (vsr : List Value) (R : List (List Nat)) (pend : List (Value × List Nat)) (tmps : List (Nat × Value)) (w : World) : Prop where
  below : Below B w0 w
  size : B ≤ w.heap.size
  ra : RowsO w B 31 5 va vsa A
  rr : RowsO w B 31 5 vr vsr R
  pend : ∀ p ∈ pend, Kept w B 5 p.1 p.2
  tmps : ∀ t ∈ tmps, w.heap[t.1]? = some (.cells #[t.2] 31 (0, 0)) ∧ va.ownBlock ≠ some t.1 ∧ vr.ownBlock ≠ some t.1
  apart : ∀ g, va.ownBlock = some g → vr.ownBlock ≠ some g
namespace TT
variable {w0 w w' : World} {B : Nat} {va vr v' x : Value} {vsa vsr : List Value} {A R : List (List Nat)} {pend : List (Value × List Nat)} {tmps : List (Nat × Value)} {l : List Nat}
theorem grow (h : TT w0 B va vsa A vr vsr R pend tmps w) (hb : Below w.heap.size w w') : TT w0 B va vsa A vr vsr R pend tmps w' :=
  ⟨h.below.trans (hb.mono h.size), Nat.le_trans h.size hb.size, h.ra.below hb, h.rr.below hb, fun p hp => (h.pend p hp).below hb, fun t ht => ⟨(hb.block _ (Array.getElem?_eq_some_iff.1 (h.tmps t ht).1).1).trans (h.tmps t ht).1, (h.tmps t ht).2⟩, h.apart⟩
theorem stable : Stable (TT w0 B va vsa A vr vsr R pend tmps) := fun _ _ h hb => h.grow hb
theorem call (h : TT w0 B va vsa A vr vsr R pend tmps w) (hb : Below w.heap.size w w') (hk : Kept w' B 5 x l) : TT w0 B va vsa A vr vsr R ((x, l) :: pend) tmps w' := by
  have h2 := h.grow hb
  refine ⟨h2.below, h2.size, h2.ra, h2.rr, fun p hp => ?_, h2.tmps, h2.apart⟩
  rcases List.mem_cons.1 hp with rfl | hp
  · exact hk
  · exact h2.pend p hp
theorem build (h : TT w0 B va vsa A vr vsr R pend tmps w) (x : Value) : TT w0 B va vsa A vr vsr R pend ((w.heap.size, x) :: tmps) (w.alloc (.cells #[x] 31)) := by
  have h2 := h.grow (w' := w.alloc (.cells #[x] 31)) ((Below.refl _ _).alloc (Nat.le_refl _) _)
  refine ⟨h2.below, h2.size, h2.ra, h2.rr, h2.pend, fun t ht => ?_, h2.apart⟩
  rcases List.mem_cons.1 ht with rfl | ht
  · refine ⟨blk_alloc_new _ _, fun q => ?_, fun q => ?_⟩
    · have := (h.ra.outer.lt _ q).2; omega
    · have := (h.rr.outer.lt _ q).2; omega
  · exact h2.tmps t ht
theorem swap (h : TT w0 B va vsa A vr vsr R pend tmps w) : TT w0 B vr vsr R va vsa A pend tmps w := ⟨h.below, h.size, h.rr, h.ra, h.pend, fun t ht => ⟨(h.tmps t ht).1, (h.tmps t ht).2.2, (h.tmps t ht).2.1⟩, fun g h1 h2 => h.apart g h2 h1⟩
theorem push (h : TT w0 B va vsa A vr vsr R pend tmps w) {n : Nat} (hn : A.length = n) (hk : Kept w B 5 x l) (ho : w'.ownsRow B 31 1 v' (n + 1) (vsa ++ [x])) (hg : w.grownBy w' va.ownBlock) (hat : v'.ownBlock = va.ownBlock ∨ v'.ownBlock = some w.heap.size) :
    TT w0 B v' (vsa ++ [x]) (A ++ [l]) vr vsr R pend tmps w' := by
  have hblk : ∀ b, b < w.heap.size → va.ownBlock ≠ some b → w'.heap[b]? = w.heap[b]? := fun b hb hne => hg.block b hb (fun q => hne q.symm)
  have hnew : ∀ b, b < w.heap.size → va.ownBlock ≠ some b → v'.ownBlock ≠ some b := fun b hb hne q => by
    rcases hat with e | e
    · exact hne (e.symm.trans q)
    · rw [e] at q; cases q; omega
  refine ⟨h.below.grown hg h.size (fun b hb => (h.ra.outer.lt b hb).1), Nat.le_trans h.size hg.size, h.ra.push (by decide) hn hk ho hg, ⟨⟨h.rr.outer.1, ?_⟩, fun i hi => (h.rr.inner i hi).grown h.ra.outer (by decide) hg⟩, fun p hp => (h.pend p hp).grown h.ra.outer (by decide) hg, fun t ht => ?_, fun g h1 h2 => ?_⟩
  · rcases h.rr.outer.2 with hh | ⟨b, cap, cur, rfl, hB, hgb, r⟩
    · exact .inl hh
    · refine .inr ⟨b, cap, cur, rfl, hB, ?_, r⟩
      rw [hblk b (Array.getElem?_eq_some_iff.1 hgb).1 (fun q => h.apart b q rfl)]
      exact hgb
  · obtain ⟨h1, h2, h3⟩ := h.tmps t ht
    have hlt := (Array.getElem?_eq_some_iff.1 h1).1
    exact ⟨(hblk _ hlt h2).trans h1, hnew _ hlt h2, h3⟩
  · have hlt := (h.rr.outer.lt g h2).2
    exact hnew g hlt (fun q => h.apart g q h2) h1
end TT

/-- an append as a special operation, with where the new slice lies -/
theorem sUpon_append_at {W : World} {o : Oper} {a : Act} {V : Value → World → Prop} (s x : Operand) (t : TypeId)
    (ho : o.op = .call { callee := .builtin .append, args := #[s, x], argTypes := #[t, t] })
    (base : Nat) (e : TypeId) (i : TypeInfo) (z : Value) (size bytes : Nat) (ht : Try.prog.underlying t = some (.slice e)) (hi : Try.prog.info? e = some i) (hz : i.zero = some z)
    (hsize : i.size = size) (hby : i.bytes = bytes) (hzs : z.cells.size = size) (hsz : 0 < size)
    (v : Value) (n : Nat) (xs : List Value) (hs : a.eval s = v) (hown : W.ownsRow base e size v n xs)
    (ad : Addr) (m c : Nat) (news : List Value) (hx : a.eval x = .slice (some ad) m c) (hl : news.length = m * size) (hnews : ∀ j u, news[j]? = some u → W.cell? (ad.add j) = some u) (h1 : ∀ u ∈ news, u.oneCell' = true)
    (h63 : n + m ≤ maxLen) (hbytes : (n + m) * bytes ≤ 140737488355328) (hbase : base ≤ W.heap.size)
    (h : ∀ v' w', w'.ownsRow base e size v' (n + m) (xs ++ news) → W.grownBy w' v.ownBlock → (v'.ownBlock = v.ownBlock ∨ v'.ownBlock = some W.heap.size) → V v' w') : sUpon Try.prog V ((execOp a.eval o).run Try.prog W) := by
  obtain ⟨v', w', hr, h2, h3, _, h5⟩ := run_append_own_at (P := Try.prog) W base t o.type e i z size bytes ht hi hz hsize hby hzs hsz v n xs hown ad m c news hl hnews h1 h63 hbytes hbase
  unfold execOp
  simp only [ho, resolve, invoke, builtin, Sem.run_bind, Sem.run_pure, Result.andThen_ok, List.map_toArray, List.map_cons, List.map_nil, hs, hx, hr]
  exact h v' w' h2 h3 h5

/-- one row appended to the first of two slices -/
theorem sUpon_left {w0 W : World} {B : Nat} {va vr : Value} {vsa vsr : List Value} {A R : List (List Nat)} {pend : List (Value × List Nat)} {tmps : List (Nat × Value)} {o : Oper} {a : Act} {p : Option Addr} {n c : Nat} {l : List Nat} {b : Nat} (s x : Operand)
    (ho : o.op = .call { callee := .builtin .append, args := #[s, x], argTypes := #[22, 22] }) (hs : a.eval s = va) (hx : a.eval x = .slice (some ⟨b, 0, none⟩) 1 1)
    (h : TT w0 B va vsa A vr vsr R pend tmps W) (hA : A.length ≤ 1000) (hp : (.slice p n c, l) ∈ pend) (ht : (b, .slice p n c) ∈ tmps) :
    sUpon Try.prog (fun u w' => TT w0 B u (vsa ++ [.slice p n c]) (A ++ [l]) vr vsr R pend tmps w') ((execOp a.eval o).run Try.prog W) := by
  obtain ⟨i29, hi, hz0, hz1, hz2⟩ := info_parts info29
  refine sUpon_append_at s x 22 ho B 31 i29 (.slice none 0 0) 1 24 Try.underlying22 hi hz0 hz1 hz2 rfl (by decide) va A.length vsa hs h.ra.outer ⟨b, 0, none⟩ 1 1 [.slice p n c] hx rfl (by
    intro j u hj
    match j, hj with
    | 0, hj => simp at hj; subst hj; simp [Addr.add, World.cell?, (h.tmps _ ht).1]
    | j + 1, hj => simp at hj) (by intro u hu; simp at hu; subst hu; rfl) (by unfold maxLen; omega) (by omega) h.size ?_
  intro v' w' h2 h3 h5
  exact h.push rfl (h.pend _ hp) h2 h3 h5
theorem sUpon_right {w0 W : World} {B : Nat} {va vr : Value} {vsa vsr : List Value} {A R : List (List Nat)} {pend : List (Value × List Nat)} {tmps : List (Nat × Value)} {o : Oper} {a : Act} {p : Option Addr} {n c : Nat} {l : List Nat} {b : Nat} (s x : Operand)
    (ho : o.op = .call { callee := .builtin .append, args := #[s, x], argTypes := #[22, 22] }) (hs : a.eval s = vr) (hx : a.eval x = .slice (some ⟨b, 0, none⟩) 1 1)
    (h : TT w0 B va vsa A vr vsr R pend tmps W) (hR : R.length ≤ 1000) (hp : (.slice p n c, l) ∈ pend) (ht : (b, .slice p n c) ∈ tmps) :
    sUpon Try.prog (fun u w' => TT w0 B va vsa A u (vsr ++ [.slice p n c]) (R ++ [l]) pend tmps w') ((execOp a.eval o).run Try.prog W) := by
  have := sUpon_left s x ho hs hx h.swap hR hp ht
  revert this
  generalize (execOp a.eval o).run Try.prog W = r
  intro this
  cases r with
  | ok n w' => cases n <;> simp only [sUpon] at this ⊢ <;> first | exact this.swap | exact this.mono fun e w'' ⟨u, he, hb⟩ => ⟨u, he, hb.swap⟩ | exact this
  | halt x w' => exact this
end Go.Proofs.Ytojfeldafbabeaa
