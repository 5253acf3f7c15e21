/- Slices of pairs that are built; two slices that are built side by side. -/
import Derived.Test.YtkjamafpohnflaaW7
set_option linter.unusedVariables false
set_option linter.unusedSimpArgs false
set_option linter.unnecessarySimpa false
namespace Go.Proofs.Ytkjamafpohnflaa
open Go Go.RowKit Go.Mem Go.Deep

def prs (l : List (Int × Int)) : List Value := l.flatMap fun p => [.int .i64 p.1, .int .i64 p.2]
theorem len_prs (l : List (Int × Int)) : (prs l).length = l.length * 2 := by
  unfold prs
  induction l with
  | nil => rfl
  | cons a l ih => rw [List.flatMap_cons, List.length_append, ih, List.length_cons]; simp; omega
theorem prs_app (l m : List (Int × Int)) : prs (l ++ m) = prs l ++ prs m := by simp [prs]
theorem prs_get : ∀ (l : List (Int × Int)) (i : Nat), i < l.length → (prs l)[i * 2]? = some (.int .i64 (l.getD i (0, 0)).1) ∧ (prs l)[i * 2 + 1]? = some (.int .i64 (l.getD i (0, 0)).2)
  | [], i, h => by simp at h
  | a :: l, 0, _ => ⟨rfl, rfl⟩
  | a :: l, i + 1, h => by
    have := prs_get l i (by simpa using h)
    have e : prs (a :: l) = .int .i64 a.1 :: .int .i64 a.2 :: prs l := rfl
    rw [e, show (i + 1) * 2 = i * 2 + 1 + 1 by omega]
    simpa using this
theorem info47 : (Try.prog.info? 47).map (fun i => (i.zero, i.size, i.bytes)) = some (some (.agg #[.int .i64 0, .int .i64 0]), 2, 16) := by kernel_rfl
theorem elt45 : Elt 45 47 2 16 := by
  obtain ⟨i, hi, hz0, hz1, hz2⟩ := info_parts info47
  exact ⟨by kernel_rfl, ⟨i, _, hi, hz0, hz1, hz2, rfl⟩, by decide, by decide⟩
theorem pairs_of_owns {w : World} {B : Nat} {v : Value} {l : List (Int × Int)} (h : w.ownsRow B 47 2 v l.length (prs l)) (hl : l.length ≤ 100000) : PairsAt w v l := by
  rcases h.2 with ⟨rfl, hz⟩ | ⟨g, cap, cur, rfl, hB, hg, h1, h2, h3, h4⟩
  · have : l = [] := List.eq_nil_of_length_eq_zero hz
    subst this
    exact Seq.nil w 2 _
  · refine ⟨some ⟨g, 0, none⟩, cap, rfl, h1, by omega, fun i hi => ⟨g, 0, rfl, (Array.getElem?_eq_some_iff.1 hg).1, fun j u hu => ?_⟩⟩
    have hg2 := prs_get l i hi
    have h5 : ∀ q, q < l.length * 2 → (prs l)[q]? = cur.toList[q]? := fun q hq => by rw [← h4, List.getElem?_take, if_pos hq]
    have h6 : ∀ q : Nat, cur.toList[q]? = cur[q]? := fun q => by simp
    simp only [World.cell?, hg, Nat.zero_add]
    match j, hu with
    | 0, hu =>
      simp at hu; subst hu
      show cur[i * 2]? = _
      rw [← h6, ← h5 _ (by omega), hg2.1]
      simp [List.getD_eq_getElem?_getD]
    | 1, hu =>
      simp at hu; subst hu
      show cur[i * 2 + 1]? = _
      rw [← h6, ← h5 _ (by omega), hg2.2]
      simp [List.getD_eq_getElem?_getD]
    | j + 2, hu => simp at hu
theorem pairs_src {w : World} {v : Value} {l : List (Int × Int)} (h : PairsAt w v l) : Src w v 2 l.length (prs l) := by
  obtain ⟨a, cap, rfl, h1, h2, h3⟩ := h
  refine ⟨by rw [len_prs], fun u hu => by simp [prs] at hu; obtain ⟨x, y, _, rfl | rfl⟩ := hu <;> rfl, a, cap, rfl, ?_⟩
  by_cases h0 : l.length = 0
  · exact .inl h0
  · right
    obtain ⟨b, off, rfl, hb, _⟩ := h3 0 (by omega)
    refine ⟨b, off, rfl, hb, fun j u hu => ?_⟩
    have hj := (List.getElem?_eq_some_iff.1 hu).1
    rw [len_prs] at hj
    obtain ⟨b', off', e, _, hc⟩ := h3 (j / 2) (by omega)
    cases e
    have hg2 := prs_get l (j / 2) (by omega)
    rcases Nat.mod_two_eq_zero_or_one j with hm | hm
    · have e : j = j / 2 * 2 := by omega
      rw [e] at hu ⊢
      rw [hg2.1] at hu
      cases hu
      have := hc 0 _ rfl
      simpa using this
    · have e : j = j / 2 * 2 + 1 := by omega
      rw [e] at hu ⊢
      rw [hg2.2] at hu
      cases hu
      have := hc 1 _ rfl
      rw [Nat.add_assoc] at this
      exact this

/-- append, with all that is known of it -/
theorem append_full {w0 W : World} {t e size bytes : Nat} (E : Elt t e size bytes) {v : Value} {n m : Nat} {xs ys : List Value} {tmps : List (Nat × Array Value)} (h : AS w0 e size v n xs tmps W) {xv : Value} (hsrc : Src W xv size m ys) (hn : n + m ≤ 10000) (hp : 0 < m) (ty : TypeId) :
    ∃ v' w', (Builtin.append_ #[t, t] ty #[v, xv]).run Try.prog W = .ok v' w' ∧ AS w0 e size v' (n + m) (xs ++ ys) tmps w' ∧ W.grownBy w' v.ownBlock ∧ (v'.ownBlock = v.ownBlock ∨ v'.ownBlock = some W.heap.size) := by
  obtain ⟨hl, h1, a, cap, rfl, h3⟩ := hsrc
  rcases h3 with h3 | ⟨b, off, rfl, hlt, hc⟩
  · omega
  · obtain ⟨i, z, hi, hz, hsz, hby, hzs⟩ := E.info
    have hb2 : (n + m) * bytes ≤ 140737488355328 := by
      have := Nat.mul_le_mul hn E.small
      omega
    obtain ⟨v', w', hr, h2, h3, _, h5⟩ := run_append_own_at (P := Try.prog) W w0.heap.size t ty e i z size bytes E.und hi hz hsz hby hzs E.pos v n xs h.row ⟨b, off, none⟩ m cap ys hl (fun j u hu => by rw [add_off]; exact hc j u hu) h1 (by unfold maxLen; omega) hb2 h.below.size
    exact ⟨v', w', hr, h.grown h2 h3 h5, h3, h5⟩

/-- two slices of the call's own, side by side -/
structure Two (w0 : World) (e s e2 s2 : Nat) (v : Value) (n : Nat) (xs : List Value) (v2 : Value) (n2 : Nat) (xs2 : List Value) (w : World) : Prop where
  one : AS w0 e s v n xs [] w
  two : AS w0 e2 s2 v2 n2 xs2 [] w
  sep : ∀ k, v.ownBlock = some k → v2.ownBlock ≠ some k
namespace Two
variable {w0 w w' : World} {e s e2 s2 n n2 : Nat} {v v2 : Value} {xs xs2 : List Value}
theorem flip (h : Two w0 e s e2 s2 v n xs v2 n2 xs2 w) : Two w0 e2 s2 e s v2 n2 xs2 v n xs w := ⟨h.two, h.one, fun k h1 h2 => h.sep k h2 h1⟩
theorem grow (h : Two w0 e s e2 s2 v n xs v2 n2 xs2 w) (hb : Below w.heap.size w w') : Two w0 e s e2 s2 v n xs v2 n2 xs2 w' := ⟨h.one.grow hb, h.two.grow hb, h.sep⟩
theorem start (w0 : World) (e s e2 s2 : Nat) : Two w0 e s e2 s2 (.slice none 0 0) 0 [] (.slice none 0 0) 0 [] w0 := ⟨AS.start _ _ _, AS.start _ _ _, fun k h => by cases h⟩
/-- the first one has grown -/
theorem app (h : Two w0 e s e2 s2 v n xs v2 n2 xs2 w) {v' : Value} {n' : Nat} {ys : List Value} (h1 : AS w0 e s v' n' ys [] w') (hg : w.grownBy w' v.ownBlock) (hat : v'.ownBlock = v.ownBlock ∨ v'.ownBlock = some w.heap.size) : Two w0 e s e2 s2 v' n' ys v2 n2 xs2 w' := by
  refine ⟨h1, ⟨h1.below, owns_same h.two.row fun k hk => hg.block k (h.two.row.lt k hk).2 (fun q => h.sep k q.symm hk), fun t ht => by cases ht⟩, fun k hk hk2 => ?_⟩
  rcases hat with h5 | h5
  · exact h.sep k (h5.symm.trans hk) hk2
  · rw [h5] at hk
    have := (h.two.row.lt k hk2).2
    cases hk
    omega
end Two
/-- append of one element to the first of two -/
theorem wpList_two {w0 W : World} {t e size bytes e2 s2 n2 : Nat} (E : Elt t e size bytes) {ops : Array Oper} {rest : List Oper} {o : Oper} {a : Act} {Q : Exit → Act → World → Prop} {v v2 : Value} {n m : Nat} {xs ys xs2 : List Value} (s x : Operand) (hg : o.guard = none)
    (ho : o.op = .call { callee := .builtin .append, args := #[s, x], argTypes := #[t, t] }) (hs : a.eval s = v) {xv : Value} (hx : a.eval x = xv) (h : Two w0 e size e2 s2 v n xs v2 n2 xs2 W) (hsrc : Src W xv size m ys) (hn : n + m ≤ 10000) (hm : 0 < m)
    (hK : ∀ p cap w', Hid (Two w0 e size e2 s2 (.slice p (n + m) cap) (n + m) (xs ++ ys) v2 n2 xs2 w') → wpList Try.prog ops Q rest (a.put o.dst (.slice p (n + m) cap)) w') : wpList Try.prog ops Q (o :: rest) a W := by
  refine wpList_plain hg fun K' hK' => ?_
  obtain ⟨v', w', hr, h2, h3, h5⟩ := append_full E h.one hsrc hn hm o.type
  unfold Oper.wp
  simp [execOp, ho, resolve, invoke, builtin, hs, hx, hr, Result.andThen]
  obtain ⟨p, cap, rfl⟩ := owns_val h2.row
  exact hK' _ _ (hK p cap w' (h.app h2 h3 h5))
/-- a block of one element as a source -/
theorem src_one {w : World} {b t : Nat} {c : Array Value} (hb : b = w.heap.size) (h1 : ∀ u ∈ c.toList, u.oneCell' = true) : Src (w.alloc (.cells c t)) (.slice (some ⟨b, 0, none⟩) 1 1) c.size 1 c.toList := by
  subst hb
  refine ⟨by simp, h1, some ⟨w.heap.size, 0, none⟩, 1, rfl, .inr ⟨w.heap.size, 0, rfl, by simp, fun j u hu => ?_⟩⟩
  rw [Nat.zero_add, World.cell?_alloc_new]
  simpa using hu
end Go.Proofs.Ytkjamafpohnflaa
