/- Sets of numbers in memory: maps from int to bool that hold true everywhere; store, look-up, range. -/
import Derived.Test.YtkjamafpohnflaaMs
import Derived.Test.YtkjamafpohnflaaMem
import Derived.Test.YtkjamafpohnflaaTr
import Derived.Maps.OwnSet
import Derived.Maps.OwnOps
import Derived.Maps.RangeWalk
import Derived.Maps.Own
import Derived.Maps.Keyed
import Derived.Lib.SmallJoins
set_option linter.unusedVariables false
set_option linter.unusedSimpArgs false
set_option linter.unnecessarySimpa false
namespace Go.Proofs.Ytkjamafpohnflaa
open Go Go.RowKit Go.Maps

noncomputable abbrev pe : Value → Option (DataW Unit × List MemPlace) := plainElem Try.prog 4
theorem key3 : Keyed Try.prog 3 := int_keyed Try.underlying3
theorem zero4 (w : World) : (zeroValue 4).run Try.prog w = .ok (.bool false) w := by kernel_rfl
theorem bool_inv {P : Program} {e : TypeId} (he : P.underlying e = some .bool) {v : Value} {z : DataW Unit × List MemPlace} (h : plainElem P e v = some z) : ∃ a, v = .bool a ∧ z = (.lit (.bool a), []) := by
  unfold plainElem at h
  rw [he] at h
  cases v <;> simp at h
  exact ⟨_, rfl, h.symm⟩
abbrev nk (x : Int) : Lit := .int .i64 x
/-- a number of 64 bits -/
def W64 (x : Int) : Prop := (Lit.int .i64 x).wf = true
theorem w64_small {x : Int} (h : -1000000 ≤ x) (h' : x ≤ 1000000) : W64 x := by
  simp [W64, Lit.wf, IntKind.min, IntKind.max, IntKind.signed, IntKind.bits]; omega
theorem same_nk (x y : Int) : (nk x).sameKey (nk y) = (x == y) := by
  simp [Lit.sameKey]
  by_cases h : x = y <;> simp [h]
/-- D holds just the numbers of S, each with true -/
structure Says (D : DataW Unit) (S : Int → Bool) : Prop where
  has : ∀ x, Maps.has D (nk x) = S x
  one : ∀ x, S x = true → ∀ z, D.atKey (nk x) z = .lit (.bool true)
def put1 (S : Int → Bool) (x : Int) : Int → Bool := fun y => y == x || S y
theorem Says.put {D : DataW Unit} {S : Int → Bool} (h : Says D S) (hD : IsMap D) (x : Int) : Says (D.put (nk x) (.lit (.bool true))) (put1 S x) := by
  constructor
  · intro y
    by_cases e : y = x
    · subst e; rw [has_put_same hD (k := nk y) trivial]; simp [put1]
    · rw [has_put_other (by intro q; cases q; exact e rfl), h.has]; simp [put1, e]
  · intro y hy z
    by_cases e : y = x
    · subst e; rw [atKey_put_same hD (k := nk y) trivial]
    · rw [atKey_put_other (by intro q; cases q; exact e rfl)]
      exact h.one y (by simpa [put1, e] using hy) z
theorem Says.no : Says (.map []) (fun _ => false) := ⟨fun _ => rfl, fun _ h => by cases h⟩
/-- the map in block b holds just the numbers of S -/
def SetAt (w : World) (b n : Nat) (S : Int → Bool) : Prop := ∃ D, w.ownsMap Try.prog 3 pe b n D ∧ Says D S
/-- a range over it is under way, L still to come -/
def RgAt (w : World) (b r n : Nat) (S L : Int → Bool) (cnt : Nat) : Prop := ∃ D left, Says D S ∧ w.ranges Try.prog 3 pe b r n D left cnt ∧ ∀ x, left (nk x) = L x

theorem only_grown {w w' : World} {b : Nat} (h : w.grownBy w' (some b)) : Only [b] w w' := ⟨h.os, h.tape, h.output, h.size, fun k hk hs => h.block k hk (by intro e; cases e; simp at hs)⟩
theorem only_grown0 {w w' : World} (h : w.grownBy w' none) : Below w.heap.size w w' := ⟨h.os, h.tape, h.output, h.size, fun k hk => h.block k hk (by simp)⟩

section
variable {w w' : World} {b r n cnt : Nat} {S L : Int → Bool}
theorem SetAt.lt (h : SetAt w b n S) : b < w.heap.size := by obtain ⟨D, h1, _⟩ := h; exact h1.lt
theorem SetAt.same (h : SetAt w b n S) (e : w'.heap[b]? = w.heap[b]?) : SetAt w' b n S := by
  obtain ⟨D, ⟨es, c, hb, F⟩, h2⟩ := h
  exact ⟨D, ⟨es, c, e.trans hb, F⟩, h2⟩
theorem SetAt.only {T : List Nat} (h : SetAt w b n S) (ho : Only T w w') (hb : b ∉ T) : SetAt w' b n S := h.same (ho.block b h.lt hb)
theorem SetAt.below (h : SetAt w b n S) (ho : Below w.heap.size w w') : SetAt w' b n S := h.same (ho.block b h.lt)
theorem SetAt.mono (h : SetAt w b n S) {m : Nat} (hm : n ≤ m) : SetAt w b m S := by obtain ⟨D, h1, h2⟩ := h; exact ⟨D, h1.mono hm, h2⟩
theorem SetAt.made (w : World) : SetAt (w.alloc (.map #[] 0)) w.heap.size 0 (fun _ => false) := ⟨_, World.ownsMap_made w _ _ _, Says.no⟩
theorem RgAt.lt (h : RgAt w b r n S L cnt) : b < w.heap.size ∧ r < w.heap.size := by obtain ⟨D, l, h0, h1, _⟩ := h; exact ⟨h1.owns.lt, h1.lt⟩
theorem RgAt.only {T : List Nat} (h : RgAt w b r n S L cnt) (ho : Only T w w') (hb : b ∉ T) (hr : r ∉ T) : RgAt w' b r n S L cnt := by
  have hl := h.lt
  obtain ⟨D, l, h0, ⟨es, clock, since, seen, c0, hbb, F, hs, hD, hrr, rest⟩, h2⟩ := h
  exact ⟨D, l, h0, ⟨es, clock, since, seen, c0, (ho.block b hl.1 hb).trans hbb, F, hs, hD, (ho.block r hl.2 hr).trans hrr, rest⟩, h2⟩
theorem RgAt.set (h : RgAt w b r n S L cnt) : SetAt w b n S := by obtain ⟨D, l, h0, h1, _⟩ := h; exact ⟨D, h1.owns, h0⟩
theorem RgAt.left (h : RgAt w b r n S L cnt) : w.rangeLeft b r = cnt := by obtain ⟨D, l, h0, h1, _⟩ := h; exact h1.left_eq
theorem RgAt.ne (h : RgAt w b r n S L cnt) : r ≠ b := by obtain ⟨D, l, h0, h1, _⟩ := h; exact h1.ne

variable {ops : Array Oper} {rest : List Oper} {o : Oper} {a : Act} {Q : Exit → Act → World → Prop}
theorem wpList_set_store (hg : o.guard = none) (m x v : Operand) (hop : o.op = Op.mapUpdate 60 m x v) (hm : a.eval m = .map (some b)) (h : SetAt w b n S) (hn : n < 1000000) {k : Int} (hx : a.eval x = .int .i64 k) (hk : W64 k) (hv : a.eval v = .bool true)
    (hK : ∀ w', Hid (SetAt w' b (n + 1) (put1 S k)) → Hid (Only [b] w w') → wpList Try.prog ops Q rest (a.put o.dst undef) w') : wpList Try.prog ops Q (o :: rest) a w := by
  obtain ⟨D, h1, h2⟩ := h
  exact wpList_mapUpdate_own w hg m x v 60 hop 3 4 key3 Try.underlying60 pe b n D hm h1 (by unfold maxLen; omega) _ _ (nk k) hx hv (keyOf_int_mk Try.underlying3 hk) (.lit (.bool true)) [] (plainElem_bool Try.underlying4 true) fun w' h3 h4 => hK w' ⟨_, h3, h2.put h1.isMap k⟩ (only_grown h4)
theorem SetAt.look (h : SetAt w b n S) {k : Int} (hk : W64 k) : (Instr.lookup 60 (.map (some b)) (.int .i64 k) false).run Try.prog w = .ok (.bool (S k)) w := by
  obtain ⟨D, h1, h2⟩ := h
  obtain ⟨v, ps, hr, hv⟩ := h1.lookup key3 Try.underlying60 (zero4 w) (plainElem_bool Try.underlying4 false) (keyOf_int_mk Try.underlying3 hk)
  obtain ⟨c, rfl, hc⟩ := bool_inv Try.underlying4 hv
  have e : D.atKey (nk k) (.lit (.bool false)) = .lit (.bool c) := congrArg Prod.fst hc
  have : c = S k := by
    cases hs : S k with
    | true => rw [h2.one k hs] at e; cases e; rfl
    | false => rw [atKey_of_not_has (by rw [h2.has, hs])] at e; cases e; rfl
  subst this
  exact hr
theorem wpList_set_look (hg : o.guard = none) (m x : Operand) (hop : o.op = Op.lookup 60 m x false) (hm : a.eval m = .map (some b)) (h : SetAt w b n S) {k : Int} (hx : a.eval x = .int .i64 k) (hk : W64 k) {c : Bool} (hc : S k = c)
    (hK : wpList Try.prog ops Q rest (a.put o.dst (.bool c)) w) : wpList Try.prog ops Q (o :: rest) a w := by
  refine wpList_plain hg fun K' hK' => ?_
  unfold Oper.wp
  simp [execOp, hop, hm, hx, h.look hk, Result.andThen]
  rw [hc]
  exact hK' _ _ hK
theorem wpList_set_range (hg : o.guard = none) (m : Operand) (hop : o.op = Op.range 60 m) (hm : a.eval m = .map (some b)) (h : SetAt w b n S)
    (hK : ∀ w' cnt, Hid (RgAt w' b w.heap.size n S S cnt) → cnt ≤ n → Hid (Below w.heap.size w w') → wpList Try.prog ops Q rest (a.put o.dst (.pointer (some ⟨w.heap.size, 0, none⟩))) w') : wpList Try.prog ops Q (o :: rest) a w := by
  obtain ⟨D, h1, h2⟩ := h
  exact wpList_range_own w hg m 60 hop 3 4 key3 Try.underlying60 pe b n D hm h1 fun w' h3 h4 h5 => hK w' _ ⟨D, _, h2, h3, h2.has⟩ h1.size_le (only_grown0 h4)
theorem RgAt.sub (h : RgAt w b r n S L cnt) {x : Int} (hx : L x = true) : S x = true := by
  obtain ⟨D, l, h0, ⟨es, clock, since, seen, c0, hbb, F, hs, hD, hrr, h1, h2, h3, h4, h5⟩, h6⟩ := h
  obtain ⟨e, he, hk⟩ := h4 _ ((h6 x).trans hx)
  rw [← h0.has, hD, has_eq, List.any_eq_true]
  exact ⟨_, mem_sorted.2 (List.mem_map.2 ⟨e, he, rfl⟩), by rw [hk, same_nk]; simp⟩
theorem wpList_set_next (hg : o.guard = none) (it : Operand) (hop : o.op = Op.next it false) (hit : a.eval it = .pointer (some ⟨r, 0, none⟩)) (h : RgAt w b r n S L cnt)
    (hDone : cnt = 0 → (∀ x, L x = false) → wpList Try.prog ops Q rest (a.put o.dst (.tuple #[.bool false])) w)
    (hMore : ∀ (x : Int) (w' : World) (cnt' : Nat), W64 x → L x = true → Hid (RgAt w' b r n S (fun z => L z && !(z == x)) cnt') → cnt' < cnt → Hid (Only [r] w w') →
      (Instr.entry (.pointer (some ⟨r, 0, none⟩))).run Try.prog w' = .ok (.tuple #[.int .i64 x, .bool true]) w' → wpList Try.prog ops Q rest (a.put o.dst (.tuple #[.bool true, .int .i64 x, .bool true])) w') :
    wpList Try.prog ops Q (o :: rest) a w := by
  have hsub := fun x => h.sub (x := x)
  obtain ⟨D, l, h0, h1, h2⟩ := h
  refine wpList_next_ranges w hg it hop 3 key3 pe (Value.int .i64) Value.bool (fun key kl hkey => by obtain ⟨x, rfl, _⟩ := Maps.keyOf_int_inv Try.underlying3 hkey; exact ⟨x, rfl⟩) (fun v y hv => by obtain ⟨c, rfl, _⟩ := bool_inv Try.underlying4 hv; exact ⟨c, rfl⟩)
    b r n D l cnt hit h1 (fun h3 h4 => hDone h3 fun x => by rw [← h2]; exact h4 _) fun x c kl y w' cnt' hkey hlk hv hat hrg hlt hgr hsz hen => ?_
  obtain ⟨x', ex, rfl, hwx⟩ := Maps.keyOf_int_inv Try.underlying3 hkey
  cases ex
  obtain ⟨c', ec, rfl⟩ := bool_inv Try.underlying4 hv
  cases ec
  have hL : L x = true := (h2 x).symm.trans hlk
  have hc : c = true := by have := (h0.one x (hsub x hL) (.lit (.bool true))).symm.trans (hat _); simpa using this.symm
  subst hc
  exact hMore x w' cnt' hwx hL ⟨D, _, h0, hrg, fun z => by show (l (nk z) && !(nk z).sameKey (nk x)) = _; rw [h2, same_nk]⟩ hlt (only_grown hgr) hen
end
end Go.Proofs.Ytkjamafpohnflaa
