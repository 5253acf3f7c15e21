/- Two slices of numbers that the same loop builds. -/
import Derived.Test.YtojfeldafbabeaaAw
import Derived.Maps.AppendAt
import Derived.Test.YtojfeldafbabeaaLt
set_option linter.unusedVariables false
set_option linter.unusedSimpArgs false
set_option linter.unnecessarySimpa false
namespace Go.Proofs.Ytojfeldafbabeaa
open Go.RowKit Go.Mem Go.Deep

theorem info3 : (Try.prog.info? 3).map (fun i => (i.zero, i.size, i.bytes)) = some (some (.int .i64 0), 1, 8) := by kernel_rfl

def ints (l : List Nat) : List Value := l.map fun n : Nat => .int .i64 (n : Int)
theorem ints_len (l : List Nat) : (ints l).length = l.length := by simp [ints]
structure Two (w : World) (B : Nat) (vr vc : Value) (rs cs : List Nat) : Prop where
  left : w.ownsRow B 3 1 vr rs.length (ints rs)
  right : w.ownsRow B 3 1 vc cs.length (ints cs)
  apart : ∀ g, vr.ownBlock = some g → vc.ownBlock ≠ some g
namespace Two
variable {w w' : World} {B : Nat} {vr vc v' : Value} {rs cs : List Nat}
theorem nil (w : World) (B : Nat) : Two w B (.slice none 0 0) (.slice none 0 0) [] [] := ⟨World.ownsRow_nil _ _ _ _, World.ownsRow_nil _ _ _ _, fun g h => by simp [Value.ownBlock] at h⟩
theorem below (h : Two w B vr vc rs cs) (hb : Below w.heap.size w w') : Two w' B vr vc rs cs := ⟨ownsRow_of_below h.left hb, ownsRow_of_below h.right hb, h.apart⟩
theorem swap (h : Two w B vr vc rs cs) : Two w B vc vr cs rs := ⟨h.right, h.left, fun g h1 h2 => h.apart g h2 h1⟩
theorem push (h : Two w B vr vc rs cs) {x : Nat} (ho : w'.ownsRow B 3 1 v' (rs.length + 1) (ints rs ++ [.int .i64 x])) (hg : w.grownBy w' vr.ownBlock) (hat : v'.ownBlock = vr.ownBlock ∨ v'.ownBlock = some w.heap.size) : Two w' B v' vc (rs ++ [x]) cs := by
  refine ⟨by simpa [ints] using ho, ⟨h.right.1, ?_⟩, fun g h1 h2 => ?_⟩
  · rcases h.right.2 with hh | ⟨b, cap, cur, rfl, hB, hgb, r⟩
    · exact .inl hh
    · refine .inr ⟨b, cap, cur, rfl, hB, ?_, r⟩
      rw [hg.block b (Array.getElem?_eq_some_iff.1 hgb).1 (fun q => h.apart b q.symm rfl)]
      exact hgb
  · have hlt := (h.right.lt g h2).2
    rcases hat with q | q
    · exact h.apart g (q.symm.trans h1) h2
    · rw [q] at h1
      cases h1
      omega
end Two

theorem app_left {ops : Array Oper} {rest : List Oper} {o : Oper} {a : Act} {Q : Exit → Act → World → Prop} (hgd : o.guard = none) (s x : Operand)
    (ho : o.op = .call { callee := .builtin .append, args := #[s, x], argTypes := #[43, 43] }) {w0 W : World} {B : Nat} {vr vc : Value} {rs cs : List Nat} {i : Nat}
    (h : Two W B vr vc rs cs) (hn : rs.length ≤ 1000) (hb : Below B w0 W) (hB : B ≤ W.heap.size) (hs : a.eval s = vr) (hx : a.eval x = .slice (some ⟨W.heap.size, 0, none⟩) 1 1)
    (hK : ∀ v' w', Hid (Two w' B v' vc (rs ++ [i]) cs ∧ Below B w0 w') → wpList Try.prog ops Q rest (a.put o.dst v') w') :
    wpList Try.prog ops Q (o :: rest) a (W.alloc (.cells #[.int .i64 i] 3)) := by
  obtain ⟨i3, hi, hz0, hz1, hz2⟩ := info_parts info3
  have hb1 : Below W.heap.size W (W.alloc (.cells #[.int .i64 i] 3)) := (Below.refl _ _).alloc (Nat.le_refl _) _
  refine wpList_append_own_at _ hgd s x 43 ho B 3 i3 (.int .i64 0) 1 8 Try.underlying43 hi hz0 hz1 hz2 rfl (by decide) vr rs.length _ hs (h.below hb1).left ⟨W.heap.size, 0, none⟩ 1 1 [.int .i64 i] hx rfl (by
      intro j u hj
      match j, hj with
      | 0, hj => simp at hj; subst hj; simp [Addr.add]
      | j + 1, hj => simp at hj) (by intro u hu; simp at hu; subst hu; rfl) (by unfold maxLen; omega) (by omega) (by simp; omega) ?_
  intro v' w' h2 h3 _ h5
  exact hK v' w' (show _ ∧ _ from ⟨(h.below hb1).push h2 h3 h5, (hb.alloc hB _).grown h3 (by simp; omega) (fun b hb => (h.left.lt b hb).1)⟩)
theorem app_right {ops : Array Oper} {rest : List Oper} {o : Oper} {a : Act} {Q : Exit → Act → World → Prop} (hgd : o.guard = none) (s x : Operand)
    (ho : o.op = .call { callee := .builtin .append, args := #[s, x], argTypes := #[43, 43] }) {w0 W : World} {B : Nat} {vr vc : Value} {rs cs : List Nat} {i : Nat}
    (h : Two W B vr vc rs cs) (hn : cs.length ≤ 1000) (hb : Below B w0 W) (hB : B ≤ W.heap.size) (hs : a.eval s = vc) (hx : a.eval x = .slice (some ⟨W.heap.size, 0, none⟩) 1 1)
    (hK : ∀ v' w', Hid (Two w' B vr v' rs (cs ++ [i]) ∧ Below B w0 w') → wpList Try.prog ops Q rest (a.put o.dst v') w') :
    wpList Try.prog ops Q (o :: rest) a (W.alloc (.cells #[.int .i64 i] 3)) :=
  app_left hgd s x ho h.swap hn hb hB hs hx fun v' w' hh => hK v' w' (show _ ∧ _ from ⟨hh.out.1.swap, hh.out.2⟩)
theorem Two.cellL {w : World} {B : Nat} {vr vc : Value} {rs cs : List Nat} (h : Two w B vr vc rs cs) (hn : 0 < rs.length) : ∃ g cap, vr = .slice (some ⟨g, 0, none⟩) rs.length cap ∧ g < w.heap.size ∧ ∀ i, i < rs.length → w.cell? ⟨g, i, none⟩ = some (.int .i64 ((rs.getD i 0 : Nat) : Int)) := by
  obtain ⟨g, cap, hv, _, _, _, ho⟩ := ownT_of_ownsRow h.left hn
  exact ⟨g, cap, hv, ho.lt, fun i hi => by rw [ho.cell hi]; simp [ints, hi]⟩

/-- an append as a special operation of a drawn region -/
theorem sUpon_append {W : World} {o : Oper} {a : Act} {V : Value → World → Prop} (s x : Operand) (t : TypeId)
    (ho : o.op = .call { callee := .builtin .append, args := #[s, x], argTypes := #[t, t] })
    (base : Nat) (e : TypeId) (i : TypeInfo) (z : Value) (size bytes : Nat) (ht : Try.prog.underlying t = some (.slice e)) (hi : Try.prog.info? e = some i) (hz : i.zero = some z)
    (hsize : i.size = size) (hby : i.bytes = bytes) (hzs : z.cells.size = size) (hsz : 0 < size)
    (v : Value) (n : Nat) (xs : List Value) (hs : a.eval s = v) (hown : W.ownsRow base e size v n xs)
    (ad : Addr) (m c : Nat) (news : List Value) (hx : a.eval x = .slice (some ad) m c) (hl : news.length = m * size) (hnews : ∀ j u, news[j]? = some u → W.cell? (ad.add j) = some u) (h1 : ∀ u ∈ news, u.oneCell' = true)
    (h63 : n + m ≤ maxLen) (hbytes : (n + m) * bytes ≤ 140737488355328) (hbase : base ≤ W.heap.size)
    (h : ∀ v' w', w'.ownsRow base e size v' (n + m) (xs ++ news) → W.grownBy w' v.ownBlock → V v' w') : sUpon Try.prog V ((execOp a.eval o).run Try.prog W) := by
  obtain ⟨v', w', hr, h2, h3, _⟩ := run_append_own (P := Try.prog) (w := W) base t o.type e i z size bytes ht hi hz hsize hby hzs hsz v n xs hown ad m c news hl hnews h1 h63 hbytes hbase
  unfold execOp
  simp only [ho, resolve, invoke, builtin, Sem.run_bind, Sem.run_pure, Result.andThen_ok, List.map_toArray, List.map_cons, List.map_nil, hs, hx, hr]
  exact h v' w' h2 h3
end Go.Proofs.Ytojfeldafbabeaa
