/- append(append(..(nil, s1), x), s2): slices that a drawn region builds by appends; sources that were there before, or one-element slices built in it. -/
import Derived.Test.YtgnmolleaengaaaGreatLy
import Derived.Test.YtgnmolleaengaaaGreatMs
import Derived.WalkKit
import Derived.Laws.AppendOwn
import Derived.Laws.OwnMore
import Derived.Maps.AppendAt
import Derived.Deep.OwnRows
set_option linter.unusedVariables false
set_option linter.unusedSimpArgs false
set_option linter.unnecessarySimpa false
namespace Go.Proofs.YtgnmolleaengaaaGreat
open Go Go.RowKit

/-- what append needs of a slice type t of elements of type e -/
structure Elt (t e : TypeId) (size bytes : Nat) : Prop where
  und : Tryz.prog.underlying t = some (.slice e)
  info : ∃ i z, Tryz.prog.info? e = some i ∧ i.zero = some z ∧ i.size = size ∧ i.bytes = bytes ∧ z.cells.size = size
  pos : 0 < size
  small : bytes ≤ 1000

theorem owns_same {w w' : World} {B e s n : Nat} {v : Value} {xs : List Value} (h : w.ownsRow B e s v n xs) (hb : ∀ k, v.ownBlock = some k → w'.heap[k]? = w.heap[k]?) : w'.ownsRow B e s v n xs := by
  refine ⟨h.1, ?_⟩
  rcases h.2 with h1 | ⟨g, cap, cur, hv, hBg, hg, r⟩
  · exact .inl h1
  · exact .inr ⟨g, cap, cur, hv, hBg, by rw [hb g (by rw [hv]; rfl)]; exact hg, r⟩
theorem owns_mono {w : World} {B B' e s n : Nat} {v : Value} {xs : List Value} (h : w.ownsRow B e s v n xs) (hB : B' ≤ B) : w.ownsRow B' e s v n xs := by
  refine ⟨h.1, ?_⟩
  rcases h.2 with h1 | ⟨g, cap, cur, hv, hBg, r⟩
  · exact .inl h1
  · exact .inr ⟨g, cap, cur, hv, Nat.le_trans hB hBg, r⟩
theorem owns_below {w w' : World} {B e s n : Nat} {v : Value} {xs : List Value} (h : w.ownsRow B e s v n xs) (hb : Below w.heap.size w w') : w'.ownsRow B e s v n xs :=
  owns_same h fun k hk => hb.block k (h.lt k hk).2
theorem owns_val {w : World} {B e s n : Nat} {v : Value} {xs : List Value} (h : w.ownsRow B e s v n xs) : ∃ a cap, v = .slice a n cap := by
  rcases h.2 with ⟨rfl, h0⟩ | ⟨g, cap, cur, rfl, _⟩
  · exact ⟨none, 0, by rw [h0]⟩
  · exact ⟨_, _, rfl⟩

/-- a slice value of m elements of s cells that reads as ys -/
def Src (w : World) (v : Value) (s m : Nat) (ys : List Value) : Prop :=
  ys.length = m * s ∧ (∀ u ∈ ys, u.oneCell' = true) ∧ ∃ a cap, v = .slice a m cap ∧ (m = 0 ∨ ∃ b off, a = some ⟨b, off, none⟩ ∧ b < w.heap.size ∧ ∀ j u, ys[j]? = some u → w.cell? ⟨b, off + j, none⟩ = some u)
theorem Src.below {w w' : World} {v : Value} {s m : Nat} {ys : List Value} (h : Src w v s m ys) (hb : Below w.heap.size w w') : Src w' v s m ys := by
  obtain ⟨h1, h2, a, cap, rfl, h3⟩ := h
  refine ⟨h1, h2, a, cap, rfl, ?_⟩
  rcases h3 with h3 | ⟨b, off, rfl, hlt, hc⟩
  · exact .inl h3
  · exact .inr ⟨b, off, rfl, Nat.lt_of_lt_of_le hlt hb.size, fun j u hu => (hb.cell (p := ⟨b, off + j, none⟩) hlt).trans (hc j u hu)⟩

theorem add_off (b off j : Nat) : (⟨b, off, none⟩ : Addr).add j = ⟨b, off + j, none⟩ := by
  unfold Addr.add
  split
  · rename_i h0; subst h0; rfl
  · rfl

/-- slices of an owned row -/
theorem src_take {w : World} {B e s n : Nat} {g cap : Nat} {xs : List Value} (h : w.ownsRow B e s (.slice (some ⟨g, 0, none⟩) n cap) n xs) (h1 : ∀ u ∈ xs, u.oneCell' = true) {k : Nat} (hk : k ≤ n) (c : Nat) : Src w (.slice (some ⟨g, 0, none⟩) k c) s k (xs.take (k * s)) := by
  have hl := h.1
  refine ⟨by rw [List.length_take, hl]; exact Nat.min_eq_left (Nat.mul_le_mul_right s hk), fun u hu => h1 u (List.mem_of_mem_take hu), _, c, rfl, .inr ⟨g, 0, rfl, (h.lt g rfl).2, fun j u hu => ?_⟩⟩
  have hj : xs[j]? = some u := by
    rw [List.getElem?_take] at hu
    split at hu
    · exact hu
    · cases hu
  have := h.cells rfl j u hj
  rwa [add_off] at this
theorem src_drop {w : World} {B e s n : Nat} {g cap : Nat} {xs : List Value} (h : w.ownsRow B e s (.slice (some ⟨g, 0, none⟩) n cap) n xs) (h1 : ∀ u ∈ xs, u.oneCell' = true) {k : Nat} (hk : k < n) (c : Nat) : Src w (.slice (some ⟨g, k * s, none⟩) (n - k) c) s (n - k) (xs.drop (k * s)) := by
  have hl := h.1
  refine ⟨by rw [List.length_drop, hl, Nat.mul_sub_right_distrib], fun u hu => h1 u (List.mem_of_mem_drop hu), _, c, rfl, .inr ⟨g, k * s, rfl, (h.lt g rfl).2, fun j u hu => ?_⟩⟩
  rw [List.getElem?_drop] at hu
  have := h.cells rfl _ u hu
  rwa [add_off, Nat.zero_add] at this
theorem src_none {w : World} {s : Nat} (a : Option Addr) (c : Nat) : Src w (.slice a 0 c) s 0 [] := ⟨by simp, by simp, a, c, rfl, .inl rfl⟩

/-- the region's state: v has been built so far; tmps: one-element slices that wait -/
structure AS (w0 : World) (e s : Nat) (v : Value) (n : Nat) (xs : List Value) (tmps : List (Nat × Array Value)) (w : World) : Prop where
  below : Below w0.heap.size w0 w
  row : w.ownsRow w0.heap.size e s v n xs
  tmps : ∀ t ∈ tmps, w.heap[t.1]? = some (.cells t.2 e (0, 0)) ∧ v.ownBlock ≠ some t.1
namespace AS
variable {w0 w w' : World} {e s n : Nat} {v v' : Value} {xs ys : List Value} {tmps : List (Nat × Array Value)}
theorem start (w0 : World) (e s : Nat) : AS w0 e s (.slice none 0 0) 0 [] [] w0 := ⟨Below.refl _ _, World.ownsRow_nil _ _ _ _, fun t ht => by cases ht⟩
theorem grow (h : AS w0 e s v n xs tmps w) (hb : Below w.heap.size w w') : AS w0 e s v n xs tmps w' :=
  ⟨h.below.trans (hb.mono h.below.size), owns_below h.row hb, fun t ht => ⟨(hb.block _ (Array.getElem?_eq_some_iff.1 (h.tmps t ht).1).1).trans (h.tmps t ht).1, (h.tmps t ht).2⟩⟩
theorem stable : Stable (AS w0 e s v n xs tmps) := fun _ _ h hb => h.grow hb
theorem base : ∀ w, AS w0 e s v n xs tmps w → Below w0.heap.size w0 w := fun _ h => h.below
theorem build (h : AS w0 e s v n xs tmps w) (c : Array Value) : AS w0 e s v n xs ((w.heap.size, c) :: tmps) (w.alloc (.cells c e)) := by
  have h2 := h.grow (below_alloc w (.cells c e))
  refine ⟨h2.below, h2.row, fun t ht => ?_⟩
  rcases List.mem_cons.1 ht with rfl | ht
  · refine ⟨by show (w.heap.push _)[w.heap.size]? = _; simp, fun q => ?_⟩
    have := (h.row.lt _ q).2
    omega
  · exact h2.tmps t ht
theorem grown (h : AS w0 e s v n xs tmps w) {n' : Nat} (ho : w'.ownsRow w0.heap.size e s v' n' ys) (hg : w.grownBy w' v.ownBlock) (hat : v'.ownBlock = v.ownBlock ∨ v'.ownBlock = some w.heap.size) : AS w0 e s v' n' ys tmps w' := by
  refine ⟨h.below.grown hg h.below.size (fun b hb => (h.row.lt b hb).1), ho, fun t ht => ?_⟩
  obtain ⟨h1, h2⟩ := h.tmps t ht
  have hlt := (Array.getElem?_eq_some_iff.1 h1).1
  refine ⟨(hg.block t.1 hlt (fun q => h2 q.symm)).trans h1, fun q => ?_⟩
  rcases hat with he | he
  · exact h2 (he.symm.trans q)
  · rw [he] at q
    have := Option.some.inj q
    omega
end AS

theorem empty_run {W : World} {t e size bytes : Nat} (E : Elt t e size bytes) {B : Nat} {v : Value} {n : Nat} {xs : List Value} {p : Option Addr} {c : Nat} (ty : TypeId) (hown : W.ownsRow B e size v n xs) : (Builtin.append_ #[t, t] ty #[v, .slice p 0 c]).run Tryz.prog W = .ok v W := by
  obtain ⟨i, z, hi, hz, hsz, hby, hzs⟩ := E.info
  have ht := E.und
  have hf : (Builtin.firstCells i.size 0 (.slice p 0 c)).run Tryz.prog W = .ok #[] W := by
    cases p <;> simp [Builtin.firstCells, loadCells, loadCellsFrom]
  rcases hown.2 with ⟨rfl, rfl⟩ | ⟨g, cap, cur, rfl, hbg, hg, hnc, hcm, hcs, htake⟩
  · simp [Builtin.append_, run_underlying ht, sizeOf, typeInfo, hi, Builtin.lenOf, hf]
  · simp [Builtin.append_, run_underlying ht, sizeOf, typeInfo, hi, Builtin.lenOf, hf, hnc, storeCells]

/-- append, at a source that reads as ys -/
theorem append_run {w0 W : World} {t e size bytes : Nat} (E : Elt t e size bytes) {v : Value} {n m : Nat} {xs ys : List Value} {tmps : List (Nat × Array Value)} (h : AS w0 e size v n xs tmps W) {x : Value} (hx : Src W x size m ys) (hn : n + m ≤ 10000) (ty : TypeId) :
    ∃ v' w', (Builtin.append_ #[t, t] ty #[v, x]).run Tryz.prog W = .ok v' w' ∧ AS w0 e size v' (n + m) (xs ++ ys) tmps w' := by
  obtain ⟨hl, h1, a, cap, rfl, h3⟩ := hx
  by_cases hm : m = 0
  · subst hm
    have : ys = [] := List.eq_nil_of_length_eq_zero (by simpa using hl)
    subst this
    refine ⟨v, W, empty_run E ty h.row, by simpa using h⟩
  · rcases h3 with h3 | ⟨b, off, rfl, hlt, hc⟩
    · exact absurd h3 hm
    · obtain ⟨i, z, hi, hz, hsz, hby, hzs⟩ := E.info
      have hb2 : (n + m) * bytes ≤ 140737488355328 := by
        have := Nat.mul_le_mul hn E.small
        omega
      obtain ⟨v', w', hr, h2, h3, _, h5⟩ := run_append_own_at (P := Tryz.prog) W w0.heap.size t ty e i z size bytes E.und hi hz hsz hby hzs E.pos v n xs h.row ⟨b, off, none⟩ m cap ys hl (fun j u hu => by rw [add_off]; exact hc j u hu) h1 (by unfold maxLen; omega) hb2 h.below.size
      exact ⟨v', w', hr, h.grown h2 h3 h5⟩

theorem sUpon_app {w0 W : World} {t e size bytes : Nat} (E : Elt t e size bytes) {o : Oper} {a : Act} {v : Value} {n m : Nat} {xs ys : List Value} {tmps : List (Nat × Array Value)} (s x : Operand)
    (ho : o.op = .call { callee := .builtin .append, args := #[s, x], argTypes := #[t, t] }) (hs : a.eval s = v) {xv : Value} (hx : a.eval x = xv) (h : AS w0 e size v n xs tmps W) (hsrc : Src W xv size m ys) (hn : n + m ≤ 10000) :
    sUpon Tryz.prog (fun u w' => AS w0 e size u (n + m) (xs ++ ys) tmps w') ((execOp a.eval o).run Tryz.prog W) := by
  obtain ⟨v', w', hr, h2⟩ := append_run E h hsrc hn o.type
  unfold execOp
  simp only [ho, resolve, invoke, builtin, Sem.run_bind, Sem.run_pure, Result.andThen_ok, List.map_toArray, List.map_cons, List.map_nil, hs, hx, hr]
  exact h2

/-- a one-element slice that waits is a source -/
theorem AS.src {w0 w : World} {e s n : Nat} {v : Value} {xs : List Value} {tmps : List (Nat × Array Value)} (h : AS w0 e s v n xs tmps w) {b : Nat} {c : Array Value} (hm : (b, c) ∈ tmps) (hc : c.size = s) (h1 : ∀ u ∈ c.toList, u.oneCell' = true) : Src w (.slice (some ⟨b, 0, none⟩) 1 1) s 1 c.toList := by
  have hh := (h.tmps _ hm).1
  refine ⟨by simp [hc], h1, _, 1, rfl, .inr ⟨b, 0, rfl, (Array.getElem?_eq_some_iff.1 hh).1, fun j u hu => ?_⟩⟩
  simp only [World.cell?, hh, Nat.zero_add]
  simpa using hu

/-- a special operation of a drawn region whose outcome is a slice value -/
theorem lOp_app {w0 : World} {t e size bytes : Nat} (E : Elt t e size bytes) {ops : Array Oper} {i : Nat} {o : Oper} {a : Act} {v : Value} {n m : Nat} {xs ys : List Value} {tmps : List (Nat × Array Value)} {K : (World → Prop) → Act → Prop} (s x : Operand) (hi : ops[i]? = some o) (hg : o.guard = none)
    (ho : o.op = .call { callee := .builtin .append, args := #[s, x], argTypes := #[t, t] }) (hs : a.eval s = v) {xv : Value} (hx : a.eval x = xv) (hsrc : ∀ w, AS w0 e size v n xs tmps w → Src w xv size m ys) (hn : n + m ≤ 10000)
    (hk : ∀ u, K (AS w0 e size u (n + m) (xs ++ ys) tmps) (a.put o.dst u)) : lOp Tryz.prog ops (Below w0.heap.size w0) (AS w0 e size v n xs tmps) i K a :=
  lOp_special' hi (fun u w' => AS w0 e size u (n + m) (xs ++ ys) tmps w') hg (fun _ => AS.stable) (fun _ w h => h.below) (fun w hw => sUpon_app E s x ho hs hx hw (hsrc w hw) hn) (fun u _ => hk u)
/-- .. that builds a one-element slice -/
theorem lOp_build {w0 : World} {e size : Nat} {ops : Array Oper} {i : Nat} {o : Oper} {a : Act} {v : Value} {n : Nat} {xs : List Value} {tmps : List (Nat × Array Value)} {K : (World → Prop) → Act → Prop} (c : Array Value) (hi : ops[i]? = some o) (hg : o.guard = none)
    (hr : ∀ w, (execOp a.eval o).run Tryz.prog w = .ok (.value (.slice (some ⟨w.heap.size, 0, none⟩) 1 1)) (w.alloc (.cells c e)))
    (hk : ∀ b, K (AS w0 e size v n xs ((b, c) :: tmps)) (a.put o.dst (.slice (some ⟨b, 0, none⟩) 1 1))) : lOp Tryz.prog ops (Below w0.heap.size w0) (AS w0 e size v n xs tmps) i K a := by
  refine lOp_special' hi (fun u w' => ∃ b, u = .slice (some ⟨b, 0, none⟩) 1 1 ∧ AS w0 e size v n xs ((b, c) :: tmps) w') hg ?_ ?_ ?_ ?_
  · rintro u w w' ⟨b, rfl, h⟩ hb; exact ⟨b, rfl, h.grow hb⟩
  · rintro u w ⟨b, rfl, h⟩; exact h.below
  · intro w hw
    rw [hr w]
    exact ⟨_, rfl, hw.build c⟩
  · rintro u ⟨w, b, rfl, hw⟩
    have e1 : (fun w' => ∃ b', (Value.slice (some ⟨b, 0, none⟩) 1 1) = .slice (some ⟨b', 0, none⟩) 1 1 ∧ AS w0 e size v n xs ((b', c) :: tmps) w') = AS w0 e size v n xs ((b, c) :: tmps) := by
      funext w
      refine propext ⟨?_, fun h => ⟨b, rfl, h⟩⟩
      rintro ⟨b', h, hw⟩
      cases h
      exact hw
    rw [e1]
    exact hk b

/-- append outside a drawn region -/
theorem wpList_app {w0 W : World} {t e size bytes : Nat} (E : Elt t e size bytes) {ops : Array Oper} {rest : List Oper} {o : Oper} {a : Act} {Q : Exit → Act → World → Prop} {v : Value} {n m : Nat} {xs ys : List Value} {tmps : List (Nat × Array Value)} (s x : Operand) (hg : o.guard = none)
    (ho : o.op = .call { callee := .builtin .append, args := #[s, x], argTypes := #[t, t] }) (hs : a.eval s = v) {xv : Value} (hx : a.eval x = xv) (h : AS w0 e size v n xs tmps W) (hsrc : Src W xv size m ys) (hn : n + m ≤ 10000)
    (hK : ∀ u w', Hid (AS w0 e size u (n + m) (xs ++ ys) tmps w') → wpList Tryz.prog ops Q rest (a.put o.dst u) w') : wpList Tryz.prog ops Q (o :: rest) a W := by
  refine wpList_plain hg fun K' hK' => ?_
  obtain ⟨v', w', hr, h2⟩ := append_run E h hsrc hn o.type
  unfold Oper.wp
  simp [execOp, ho, resolve, invoke, builtin, hs, hx, hr, Result.andThen]
  exact hK' _ _ (hK _ _ h2)
end Go.Proofs.YtgnmolleaengaaaGreat
