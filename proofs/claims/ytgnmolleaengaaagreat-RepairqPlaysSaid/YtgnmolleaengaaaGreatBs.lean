/- Slices in memory that read as lists: numbers, copies; slices that the call itself builds by append. -/
import Derived.Test.YtgnmolleaengaaaGreatAp
import Derived.Test.YtgnmolleaengaaaGreatSq
import Derived.LoopTactic
import Derived.Deep.QuietTactic
import Derived.BigQuiet
import Derived.IntWalk
import Derived.MapKept
import Derived.Laws.StructEq
set_option linter.unusedVariables false
set_option linter.unusedSimpArgs false
set_option linter.unnecessarySimpa false
namespace Go.Proofs.YtgnmolleaengaaaGreat
open Go Go.RowKit Go.MapKept

/-- how the elements of a slice lie in cells -/
structure Enc (α : Type) where
  k : Nat
  f : α → List Value
  len : ∀ x, (f x).length = k
  pos : 0 < k
  one : ∀ x, ∀ v ∈ f x, v.oneCell' = true
def Enc.flat {α : Type} (E : Enc α) (l : List α) : List Value := l.flatMap E.f
section
variable {α : Type} {E : Enc α}
theorem flat_nil : E.flat [] = [] := rfl
theorem flat_cons (x : α) (l : List α) : E.flat (x :: l) = E.f x ++ E.flat l := rfl
theorem flat_app (l m : List α) : E.flat (l ++ m) = E.flat l ++ E.flat m := by simp [Enc.flat]
theorem flat_len (l : List α) : (E.flat l).length = l.length * E.k := by
  induction l with
  | nil => simp [flat_nil]
  | cons x l ih => rw [flat_cons, List.length_append, ih, E.len, List.length_cons, Nat.succ_mul]; omega
theorem flat_one (l : List α) : ∀ u ∈ E.flat l, u.oneCell' = true := fun u hu => by
  simp [Enc.flat] at hu
  obtain ⟨x, _, hx⟩ := hu
  exact E.one x u hx
theorem flat_get : ∀ (l : List α) (i : Nat) (x : α) (j : Nat), l[i]? = some x → j < E.k → (E.flat l)[i * E.k + j]? = (E.f x)[j]?
  | [], _, _, _, h, _ => by simp at h
  | y :: l, 0, x, j, h, hj => by
    simp at h
    subst h
    rw [flat_cons, Nat.zero_mul, Nat.zero_add, List.getElem?_append_left (by rw [E.len]; exact hj)]
  | y :: l, i + 1, x, j, h, hj => by
    rw [flat_cons, List.getElem?_append_right (by rw [E.len, Nat.succ_mul]; omega), E.len, show (i + 1) * E.k + j - E.k = i * E.k + j by rw [Nat.succ_mul]; omega]
    exact flat_get l i x j (by simpa using h) hj
theorem flat_take (l : List α) (n : Nat) : E.flat (l.take n) = (E.flat l).take (n * E.k) := by
  induction l generalizing n with
  | nil => simp [flat_nil]
  | cons x l ih =>
    cases n with
    | zero => simp [flat_nil]
    | succ n =>
      rw [List.take_succ_cons, flat_cons, ih, flat_cons, List.take_append, E.len, show (n + 1) * E.k - E.k = n * E.k by rw [Nat.succ_mul]; omega, List.take_of_length_le (l := E.f x) (by rw [E.len, Nat.succ_mul]; omega)]
theorem flat_drop (l : List α) (n : Nat) : E.flat (l.drop n) = (E.flat l).drop (n * E.k) := by
  induction l generalizing n with
  | nil => simp [flat_nil]
  | cons x l ih =>
    cases n with
    | zero => simp
    | succ n =>
      rw [List.drop_succ_cons, ih, flat_cons, List.drop_append, E.len, show (n + 1) * E.k - E.k = n * E.k by rw [Nat.succ_mul]; omega, show (E.f x).drop ((n + 1) * E.k) = [] from List.drop_eq_nil_of_le (by rw [E.len, Nat.succ_mul]; omega), List.nil_append]

/-- v is a slice that reads as l -/
def Rd (E : Enc α) (w : World) (v : Value) (l : List α) : Prop :=
  ∃ a cap, v = .slice a l.length cap ∧ (l.length ≤ cap ∧ cap ≤ 9223372036854775807) ∧ (l = [] ∨ ∃ b off, a = some ⟨b, off, none⟩ ∧ b < w.heap.size ∧ ∀ j u, (E.flat l)[j]? = some u → w.cell? ⟨b, off + j, none⟩ = some u)
theorem Rd.below {B : Nat} {w w' : World} {v : Value} {l : List α} (h : Rd E w v l) (hb : Below B w w') (hB : w.heap.size ≤ B) : Rd E w' v l := by
  obtain ⟨a, cap, rfl, hl, h⟩ := h
  refine ⟨a, cap, rfl, hl, ?_⟩
  rcases h with h | ⟨b, off, rfl, hlt, hc⟩
  · exact .inl h
  · exact .inr ⟨b, off, rfl, Nat.lt_of_lt_of_le hlt hb.size, fun j u hu => (hb.cell (p := ⟨b, off + j, none⟩) (by show b < B; omega)).trans (hc j u hu)⟩
theorem Rd.keep {w w' : World} {v : Value} {l : List α} (h : Rd E w v l) (hb : Below w.heap.size w w') : Rd E w' v l := h.below hb (Nat.le_refl _)
theorem Rd.open {w : World} {v : Value} {l : List α} (h : Rd E w v l) : ∃ a cap, v = .slice a l.length cap ∧ l.length ≤ 9223372036854775807 := by
  obtain ⟨a, cap, rfl, hl, _⟩ := h
  exact ⟨a, cap, rfl, by omega⟩
theorem Rd.caps {w : World} {a : Option Addr} {n c : Nat} {l : List α} (h : Rd E w (.slice a n c) l) : n ≤ c ∧ c ≤ 9223372036854775807 ∧ n = l.length := by
  obtain ⟨a', cap', e, hl, h⟩ := h
  cases e
  exact ⟨hl.1, hl.2, rfl⟩
theorem Rd.bare {w : World} {n c : Nat} {l : List α} (h : Rd E w (.slice none n c) l) : n = 0 ∧ l = [] := by
  obtain ⟨a', cap', e, hl, h⟩ := h
  cases e
  rcases h with h | ⟨b, off, h, _⟩
  · exact ⟨by rw [h]; rfl, h⟩
  · cases h
theorem Rd.spot {w : World} {a : Addr} {n c : Nat} {l : List α} (h : Rd E w (.slice (some a) n c) l) (h0 : l ≠ []) : a = ⟨a.block, a.off, none⟩ := by
  obtain ⟨a', cap', e, hl, h⟩ := h
  cases e
  rcases h with h | ⟨b, off, h, _⟩
  · exact absurd h h0
  · cases h; rfl
theorem Rd.nil (w : World) (a : Option Addr) (c : Nat) (hc : c ≤ 9223372036854775807) : Rd E w (.slice a 0 c) [] := ⟨a, c, rfl, ⟨Nat.zero_le _, hc⟩, .inl rfl⟩
theorem Rd.cell {w : World} {a : Option Addr} {n cap : Nat} {l : List α} (h : Rd E w (.slice a n cap) l) {i : Nat} {x : α} (hi : l[i]? = some x) :
    ∃ b off, a = some ⟨b, off, none⟩ ∧ b < w.heap.size ∧ ∀ j u, (E.f x)[j]? = some u → w.cell? ⟨b, off + i * E.k + j, none⟩ = some u := by
  obtain ⟨a', cap', e, _, h⟩ := h
  cases e
  rcases h with h | ⟨b, off, rfl, hlt, hc⟩
  · subst h; simp at hi
  · refine ⟨b, off, rfl, hlt, fun j u hu => ?_⟩
    have hj : j < E.k := by rw [← E.len x]; exact (List.getElem?_eq_some_iff.1 hu).1
    rw [Nat.add_assoc]
    exact hc _ u ((flat_get l i x j hi hj).trans hu)
theorem Rd.src {w : World} {v : Value} {l : List α} (h : Rd E w v l) : Src w v E.k l.length (E.flat l) := by
  obtain ⟨a, cap, rfl, hl, h⟩ := h
  refine ⟨flat_len l, flat_one l, a, cap, rfl, ?_⟩
  rcases h with h | ⟨b, off, rfl, hlt, hc⟩
  · exact .inl (by rw [h]; rfl)
  · exact .inr ⟨b, off, rfl, hlt, hc⟩
/-- a new slice, its cells laid -/
theorem Rd.new (w : World) (l : List α) (hl : l.length ≤ 1000000) (t : TypeId) : Rd E (w.alloc (.cells (E.flat l).toArray t)) (.slice (some ⟨w.heap.size, 0, none⟩) l.length l.length) l :=
  ⟨_, _, rfl, ⟨Nat.le_refl _, by omega⟩, .inr ⟨w.heap.size, 0, rfl, by simp, fun j u hu => by rw [Nat.zero_add, World.cell?_alloc_new]; simpa using hu⟩⟩
theorem Rd.take {w : World} {b off n cap : Nat} {l : List α} (h : Rd E w (.slice (some ⟨b, off, none⟩) n cap) l) {i : Nat} (hi : i ≤ l.length) : Rd E w (.slice (some ⟨b, off, none⟩) i cap) (l.take i) := by
  obtain ⟨a', cap', e, hl, h⟩ := h
  cases e
  refine ⟨_, cap, by rw [List.length_take, Nat.min_eq_left hi], by rw [List.length_take]; omega, ?_⟩
  rcases h with h | ⟨b', off', e, hlt, hc⟩
  · exact .inl (by simp [h])
  · cases e
    refine .inr ⟨b, off, rfl, hlt, fun j u hu => hc j u ?_⟩
    rw [flat_take, List.getElem?_take] at hu
    split at hu
    · exact hu
    · cases hu
theorem Rd.head {w : World} {b off n cap : Nat} {l : List α} (h : Rd E w (.slice (some ⟨b, off, none⟩) n cap) l) {i : Nat} (hi : i ≤ l.length) (c : Nat) : Src w (.slice (some ⟨b, off, none⟩) i c) E.k i (E.flat (l.take i)) := by
  have := (h.take hi).src
  rw [List.length_take, Nat.min_eq_left hi] at this
  obtain ⟨h1, h2, a, cap, e, h3⟩ := this
  cases e
  exact ⟨h1, h2, _, c, rfl, h3⟩
theorem Rd.tail {w : World} {b off n cap : Nat} {l : List α} (h : Rd E w (.slice (some ⟨b, off, none⟩) n cap) l) {i : Nat} (hn : l.length = n) (hi : i ≤ l.length) (c : Nat) : Src w (.slice (some ⟨b, off + i * E.k, none⟩) (n - i) c) E.k (n - i) (E.flat (l.drop i)) := by
  subst hn
  obtain ⟨a', cap', e, hl, h⟩ := h
  cases e
  refine ⟨by rw [flat_len, List.length_drop], flat_one _, _, c, rfl, ?_⟩
  rcases h with h | ⟨b', off', e, hlt, hc⟩
  · exact .inl (by simp [h])
  · cases e
    refine .inr ⟨b, off + i * E.k, rfl, hlt, fun j u hu => ?_⟩
    rw [flat_drop, List.getElem?_drop] at hu
    rw [Nat.add_assoc]
    exact hc _ u hu

/-- a slice that the call itself builds, in memory that is new against w0 -/
def Ow (E : Enc α) (e : TypeId) (w0 w : World) (v : Value) (l : List α) : Prop := AS w0 e E.k v l.length (E.flat l) [] w
theorem Ow.start (e : TypeId) (w : World) : Ow E e w w (.slice none 0 0) [] := AS.start w e E.k
theorem Ow.begin {e : TypeId} {w0 w : World} (hb : Below w0.heap.size w0 w) : Ow E e w0 w (.slice none 0 0) [] := ⟨hb, World.ownsRow_nil _ _ _ _, fun t ht => by cases ht⟩
theorem Ow.grow {e : TypeId} {w0 w w' : World} {v : Value} {l : List α} (h : Ow E e w0 w v l) (hb : Below w.heap.size w w') : Ow E e w0 w' v l := AS.grow h hb
theorem Ow.down {e : TypeId} {w0 w1 w : World} {v : Value} {l : List α} (h : Ow E e w1 w v l) (hb : Below w0.heap.size w0 w1) : Ow E e w0 w v l :=
  ⟨hb.trans (h.below.mono hb.size), owns_mono h.row hb.size, fun t ht => by cases ht⟩
theorem Ow.rd {e : TypeId} {w0 w : World} {v : Value} {l : List α} (h : Ow E e w0 w v l) (hl : l.length ≤ 1000000) : Rd E w v l := by
  have hr := h.row
  obtain ⟨a, cap, rfl⟩ := owns_val hr
  have hcap : l.length ≤ cap ∧ cap ≤ 9223372036854775807 := by
    rcases hr.2 with ⟨h0, h1⟩ | ⟨g', cap', cur, he, _, _, h1, h2, _⟩
    · have e : cap = 0 := (Value.slice.inj h0).2.2
      exact ⟨by omega, by omega⟩
    · cases he; unfold maxLen at h2; exact ⟨h1, h2⟩
  refine ⟨a, cap, rfl, hcap, ?_⟩
  by_cases h0 : l = []
  · exact .inl h0
  · right
    have hne : l.length ≠ 0 := fun q => h0 (List.eq_nil_of_length_eq_zero q)
    rcases hr.2 with ⟨_, hz⟩ | ⟨g, cap', cur, e, _⟩
    · exact absurd hz hne
    · cases e
      exact ⟨g, 0, rfl, (hr.lt g rfl).2, fun j u hu => by have := hr.cells rfl j u hu; rwa [add_off] at this⟩
theorem Ow.val {e : TypeId} {w0 w : World} {v : Value} {l : List α} (h : Ow E e w0 w v l) : ∃ a cap, v = .slice a l.length cap := owns_val h.row
/-- what append did besides -/
structure Grew (W w' : World) (v v' : Value) : Prop where
  by_ : W.grownBy w' v.ownBlock
  at_ : v'.ownBlock = v.ownBlock ∨ v'.ownBlock = some W.heap.size
theorem append_run2 {w0 W : World} {t e : TypeId} {bytes : Nat} (T : Elt t e E.k bytes) {v x : Value} {l m : List α} (h : Ow E e w0 W v l) (hm : Rd E W x m) (hn : l.length + m.length ≤ 10000) (ty : TypeId) :
    ∃ v' w', (Builtin.append_ #[t, t] ty #[v, x]).run Tryz.prog W = .ok v' w' ∧ Ow E e w0 w' v' (l ++ m) ∧ Grew W w' v v' := by
  obtain ⟨a, cap, rfl, hl, hm⟩ := hm
  by_cases hz : m = []
  · subst hz
    refine ⟨v, W, empty_run T ty h.row, by simpa using h, ⟨rfl, rfl, rfl, Nat.le_refl _, fun _ _ _ => rfl⟩, .inl rfl⟩
  · rcases hm with hm | ⟨b, off, rfl, hlt, hc⟩
    · exact absurd hm hz
    · obtain ⟨i, z, hi, hz, hsz, hby, hzs⟩ := T.info
      have hb2 : (l.length + m.length) * bytes ≤ 140737488355328 := by
        have := Nat.mul_le_mul hn T.small
        omega
      obtain ⟨v', w', hr, h2, h3, _, h5⟩ := run_append_own_at (P := Tryz.prog) W w0.heap.size t ty e i z E.k bytes T.und hi hz hsz hby hzs T.pos v l.length (E.flat l) h.row ⟨b, off, none⟩ m.length cap (E.flat m) (flat_len m) (fun j u hu => by rw [add_off]; exact hc j u hu) (flat_one m) (by unfold maxLen; omega) hb2 h.below.size
      refine ⟨v', w', hr, ?_, h3, h5⟩
      have := AS.grown h h2 h3 h5
      unfold Ow
      rw [flat_app, List.length_append]
      exact this
theorem Ow.cap {e : TypeId} {w0 w : World} {a : Addr} {n c : Nat} {l : List α} (h : Ow E e w0 w (.slice (some a) n c) l) : n ≤ c ∧ c ≤ 9223372036854775807 ∧ a.spot = none ∧ a.off = 0 := by
  have hn : n = l.length := by obtain ⟨a', cap', e⟩ := h.val; cases e; rfl
  rcases h.row.2 with ⟨h0, _⟩ | ⟨g', cap', cur, he, _, _, h1, h2, _⟩
  · cases h0
  · cases he; unfold maxLen at h2; exact ⟨by omega, by omega, rfl, rfl⟩
theorem Ow.bare {e : TypeId} {w0 w : World} {n c : Nat} {l : List α} (h : Ow E e w0 w (.slice none n c) l) : n = 0 ∧ c = 0 ∧ l = [] := by
  rcases h.row.2 with ⟨h0, h1⟩ | ⟨g', cap', cur, he, _⟩
  · cases h0; exact ⟨rfl, rfl, List.eq_nil_of_length_eq_zero h1⟩
  · cases he
theorem own_of {e : TypeId} {w0 w : World} {v : Value} {N : Nat} {XS : List Value} {T : List (Nat × Array Value)} (h : AS w0 e E.k v N XS T w) {I : List α} (hN : N = I.length) (hX : XS = E.flat I) : Ow E e w0 w v I := by
  subst hN hX
  exact ⟨h.below, h.row, fun t ht => by cases ht⟩
/-- append of a slice that reads as m -/
theorem wpList_more {w0 W : World} {t e : TypeId} {bytes : Nat} (T : Elt t e E.k bytes) {ops : Array Oper} {rest : List Oper} {o : Oper} {a : Act} {Q : Exit → Act → World → Prop} {v x : Value} {l m : List α} (s y : Operand) (hg : o.guard = none)
    (ho : o.op = .call { callee := .builtin .append, args := #[s, y], argTypes := #[t, t] }) (hs : a.eval s = v) (hx : a.eval y = x) (h : Ow E e w0 W v l) (hm : Rd E W x m) (hn : l.length + m.length ≤ 10000)
    (hK : ∀ p cap w', Hid (Ow E e w0 w' (.slice p (l.length + m.length) cap) (l ++ m)) → Hid (Grew W w' v (.slice p (l.length + m.length) cap)) → wpList Tryz.prog ops Q rest (a.put o.dst (.slice p (l.length + m.length) cap)) w') : wpList Tryz.prog ops Q (o :: rest) a W := by
  refine wpList_plain hg fun K' hK' => ?_
  obtain ⟨v', w', hr, h2, h3⟩ := append_run2 T h hm hn o.type
  obtain ⟨p, cap, rfl⟩ := h2.val
  rw [List.length_append] at h2 h3 hr
  unfold Oper.wp
  simp [execOp, ho, resolve, invoke, builtin, hs, hx, hr, Result.andThen]
  exact hK' _ _ (hK _ _ _ h2 h3)
/-- append of one element, laid in a block of its own -/
theorem wpList_push {w0 W : World} {t e : TypeId} {bytes : Nat} (T : Elt t e E.k bytes) {ops : Array Oper} {rest : List Oper} {o : Oper} {a : Act} {Q : Exit → Act → World → Prop} {v : Value} {x : α} {l : List α} {b : Nat} (s y : Operand) (hg : o.guard = none)
    (ho : o.op = .call { callee := .builtin .append, args := #[s, y], argTypes := #[t, t] }) (hs : a.eval s = v) (hx : a.eval y = .slice (some ⟨b, 0, none⟩) 1 1) (hb : b = W.heap.size) (h : Ow E e w0 W v l) (hn : l.length < 9999)
    (hK : ∀ p cap w', Hid (Ow E e w0 w' (.slice p (l.length + 1) cap) (l ++ [x])) → Hid (Grew (W.alloc (.cells (E.f x).toArray e)) w' v (.slice p (l.length + 1) cap)) → wpList Tryz.prog ops Q rest (a.put o.dst (.slice p (l.length + 1) cap)) w') :
    wpList Tryz.prog ops Q (o :: rest) a (W.alloc (.cells (E.f x).toArray e)) := by
  subst hb
  have hr := Rd.new (E := E) W [x] (by simp) e
  have e1 : E.flat [x] = E.f x := by simp [Enc.flat]
  rw [e1] at hr
  exact wpList_more T s y hg ho hs hx (h.grow (below_alloc _ _)) hr (by simp; omega) hK
end

/-- numbers -/
def eI : Enc Int := ⟨1, fun x => [.int .i64 x], fun _ => rfl, by decide, fun x v hv => by simp at hv; subst hv; rfl⟩
abbrev Ints (w : World) (v : Value) (l : List Int) : Prop := Rd eI w v l
theorem Rd.int {w : World} {a : Option Addr} {n cap : Nat} {l : List Int} (h : Rd eI w (.slice a n cap) l) {i : Nat} (hi : i < l.length) :
    ∃ b off, a = some ⟨b, off, none⟩ ∧ b < w.heap.size ∧ w.cell? ⟨b, off + i, none⟩ = some (.int .i64 (l.getD i 0)) := by
  obtain ⟨b, off, e, hb, hc⟩ := h.cell (i := i) (x := l.getD i 0) (by simp [hi])
  exact ⟨b, off, e, hb, by simpa [eI] using hc 0 _ rfl⟩
theorem Rd.int' {w : World} {b off n cap : Nat} {l : List Int} (h : Rd eI w (.slice (some ⟨b, off, none⟩) n cap) l) {i : Nat} (hi : i < l.length) :
    w.cell? ⟨b, off + i, none⟩ = some (.int .i64 (l.getD i 0)) := by
  obtain ⟨b', off', e, _, hc⟩ := h.int hi
  cases e
  exact hc
theorem ret_bool {a b : Bool} (h : a = b) : Ending.returned (.bool a) = .returned (.bool b) := by rw [h]
theorem ret_int {a b : Int} (h : a = b) : Ending.returned (.int .i64 a) = .returned (.int .i64 b) := by rw [h]
end Go.Proofs.YtgnmolleaengaaaGreat
