/- Maps whose keys are pairs of integers: a block as a function from pairs to values; look-up, store, an entry made and filled, delete, a new map. -/
import Derived.MapKept
import Derived.ChangeMaps5
import Derived.Carry
import Derived.Laws.StructEq
import Derived.Below
import Derived.Test.YtnhpjmjinchamaaRows
set_option linter.unusedVariables false
set_option linter.unusedSimpArgs false
set_option linter.unnecessarySimpa false
namespace Go.Proofs.Ytnhpjmjinchamaa
open Go Go.RowKit Go.MapKept Go.ChangeMaps

abbrev Pk := Int × Int
/-- a key in memory -/
abbrev kv (k : Pk) : Value := .agg #[.int .i64 k.1, .int .i64 k.2]
theorem kv_inj {k k' : Pk} (h : kv k = kv k') : k = k' := by
  obtain ⟨a, b⟩ := k
  obtain ⟨c, d⟩ := k'
  simpa [kv] using h
/-- a function turned at one pair -/
def upd {α : Type} (f : Pk → α) (k : Pk) (v : α) : Pk → α := fun k' => if k' = k then v else f k'
theorem upd_same {α : Type} (f : Pk → α) (k : Pk) (v : α) : upd f k v k = v := by simp [upd]
theorem upd_other {α : Type} (f : Pk → α) {k k' : Pk} (v : α) (h : k' ≠ k) : upd f k v k' = f k' := by simp [upd, h]
theorem upd_upd {α : Type} (f : Pk → α) (k : Pk) (v v' : α) : upd (upd f k v) k v' = upd f k v' := by
  funext k'; unfold upd; split <;> simp_all
theorem upd_map {α β : Type} (g : α → β) (f : Pk → α) (k : Pk) (v : α) : (fun k' => g (upd f k v k')) = upd (fun k' => g (f k')) k (g v) := by
  funext k'; unfold upd; split <;> rfl

/-- what the laws need of the key's type -/
structure PairKey (P : Program) (t : TypeId) : Prop where
  und : P.underlying t = some (.struct (P.fieldsOf t))
  check : ∀ (w : World) (em : Bool) (k : Pk), (Instr.checkKey em 10000 t (kv k)).run P w = .ok () w
  eq : ∀ (w : World) (k k' : Pk), (Op.equal t (kv k) (kv k')).run P w = .ok (decide (k = k')) w

theorem stays (P : Program) (w : World) (k : Pk) : (Instr.keyThatStays (kv k) (kv k)).run P w = .ok (kv k) w := by
  have : Instr.sameBits 10000 (kv k) (kv k) = true := by
    show Instr.sameBits (9999 + 1) _ _ = true
    simp [Instr.sameBits]
  simp [Instr.keyThatStays, this]

section
variable {P : Program} {t : TypeId}

theorem findNow_pairs {fs : Array Field} (k : Pk) : ∀ es : List MapEntry, es ≠ [] → Instr.findNow (.struct fs) (kv k) es 0 = none
  | [], h => absurd rfl h
  | e :: es, _ => by simp [Instr.findNow, Instr.sameNow]

theorem findAsking_pairs (K : PairKey P t) (w : World) (k : Pk) : ∀ (es : List MapEntry) (i : Nat), (∀ x ∈ es, ∃ q, x.key = kv q) →
    ((Instr.findAsking t (kv k) es i).run P w = .ok none w ∧ ∀ e ∈ es, e.key ≠ kv k) ∨ ∃ j e, (Instr.findAsking t (kv k) es i).run P w = .ok (some (i + j, e.val)) w ∧ es[j]? = some e ∧ e.key = kv k
  | [], i, _ => .inl ⟨by simp [Instr.findAsking], by simp⟩
  | e :: es, i, h => by
    obtain ⟨q, hq⟩ := h e (by simp)
    unfold Instr.findAsking
    rw [hq]
    simp only [Sem.run_bind, K.eq, Result.andThen_ok]
    by_cases hk : k = q
    · refine .inr ⟨0, e, by simp [hk], by simp, by rw [hq, hk]⟩
    · simp only [hk, decide_false, Bool.false_eq_true, if_false]
      rcases findAsking_pairs K w k es (i + 1) (fun x hx => h x (by simp [hx])) with ⟨h1, h2⟩ | ⟨j, e', h1, h2, h3⟩
      · refine .inl ⟨h1, fun x hx => ?_⟩
        rcases List.mem_cons.1 hx with rfl | hx
        · rw [hq]; exact fun he => hk (kv_inj he).symm
        · exact h2 x hx
      · exact .inr ⟨j + 1, e', by rw [h1]; congr 3; omega, by simpa using h2, h3⟩

theorem find_pairs (K : PairKey P t) (w : World) (k : Pk) (es : List MapEntry) (h : ∀ x ∈ es, ∃ q, x.key = kv q) :
    ((Instr.findKey t (kv k) es).run P w = .ok none w ∧ ∀ e ∈ es, e.key ≠ kv k) ∨ ∃ j e, (Instr.findKey t (kv k) es).run P w = .ok (some (j, e.val)) w ∧ es[j]? = some e ∧ e.key = kv k := by
  by_cases hn : es = []
  · subst hn
    exact .inl ⟨by simp [Instr.findKey, run_underlying K.und, Instr.findNow], by simp⟩
  · have e1 : ∀ r, (Instr.findAsking t (kv k) es 0).run P w = r → (Instr.findKey t (kv k) es).run P w = r := fun r hr => by
      simp only [Instr.findKey, Sem.run_bind, run_underlying K.und, Result.andThen_ok, findNow_pairs k es hn]
      exact hr
    rcases findAsking_pairs K w k es 0 h with ⟨h1, h2⟩ | ⟨j, e, h1, h2, h3⟩
    · exact .inl ⟨e1 _ h1, h2⟩
    · exact .inr ⟨j, e, by simpa using e1 _ h1, h2, h3⟩

/-- block b is a map that holds F -/
def MapV (w : World) (b : Nat) (F : Pk → Option Value) : Prop :=
  ∃ es clock, w.heap[b]? = some (.map es clock) ∧ Stamped es clock ∧ (∀ x ∈ es.toList, ∃ k, x.key = kv k) ∧ ∀ k v, F k = some v ↔ ∃ x ∈ es.toList, x.key = kv k ∧ x.val = v
/-- .. and its entry with stamp s is the one at k -/
def MapE (w : World) (b : Nat) (k : Pk) (s : Int) (F : Pk → Option Value) : Prop :=
  ∃ es clock, w.heap[b]? = some (.map es clock) ∧ Stamped es clock ∧ (∀ x ∈ es.toList, ∃ k, x.key = kv k) ∧ (∀ k v, F k = some v ↔ ∃ x ∈ es.toList, x.key = kv k ∧ x.val = v) ∧ ∃ x ∈ es.toList, x.key = kv k ∧ (x.born : Int) = s

theorem MapE.mapV {w : World} {b : Nat} {k : Pk} {s : Int} {F : Pk → Option Value} (h : MapE w b k s F) : MapV w b F := by
  obtain ⟨es, c, h1, h2, h3, h4, _⟩ := h
  exact ⟨es, c, h1, h2, h3, h4⟩
theorem MapV.lt {w : World} {b : Nat} {F : Pk → Option Value} (h : MapV w b F) : b < w.heap.size := by
  obtain ⟨es, c, h1, _⟩ := h
  exact (Array.getElem?_eq_some_iff.1 h1).1
theorem MapE.lt {w : World} {b : Nat} {k : Pk} {s : Int} {F : Pk → Option Value} (h : MapE w b k s F) : b < w.heap.size := h.mapV.lt
theorem MapV.keep {w w' : World} {b : Nat} {F : Pk → Option Value} (h : MapV w b F) (e : w'.heap[b]? = w.heap[b]?) : MapV w' b F := by
  obtain ⟨es, c, h1, h2⟩ := h
  exact ⟨es, c, e.trans h1, h2⟩
theorem MapE.keep {w w' : World} {b : Nat} {k : Pk} {s : Int} {F : Pk → Option Value} (h : MapE w b k s F) (e : w'.heap[b]? = w.heap[b]?) : MapE w' b k s F := by
  obtain ⟨es, c, h1, h2⟩ := h
  exact ⟨es, c, e.trans h1, h2⟩
theorem MapV.made (w : World) : MapV (w.alloc (.map #[] 0)) w.heap.size (fun _ => none) :=
  ⟨#[], 0, (MapKept.heap_alloc w _).1, stamped_empty 0, by simp, by simp⟩

theorem nodup_at {β : Type} {l : List MapEntry} (f : MapEntry → β) (h : (l.map f).Nodup) {i j : Nat} (hi : i < l.length) (hj : j < l.length) (e : f l[i] = f l[j]) : i = j :=
  (List.getElem_inj (xs := l.map f) (h₀ := by simpa using hi) (h₁ := by simpa using hj) h).1 (by simpa using e)

theorem apart {es : Array MapEntry} {clock : Nat} (hs : Stamped es clock) {x y : MapEntry} (hx : x ∈ es.toList) (hy : y ∈ es.toList) (h : x.key = y.key) : x = y := by
  have hp := hs.2.2
  obtain ⟨i, hi, rfl⟩ := List.getElem_of_mem hx
  obtain ⟨j, hj, rfl⟩ := List.getElem_of_mem hy
  have := nodup_at (·.key) hp hi hj h
  subst this
  rfl

/-- the entries with the one at place j laid anew -/
theorem mem_modify {es : Array MapEntry} {clock : Nat} (hs : Stamped es clock) {j : Nat} {e : MapEntry} (hj : es.toList[j]? = some e) (g : MapEntry → MapEntry) (x : MapEntry) :
    x ∈ (es.modify j g).toList ↔ x = g e ∨ (x ∈ es.toList ∧ x.key ≠ e.key) := by
  have hlist : (es.modify j g).toList = es.toList.set j (g e) := by rw [Array.toList_modify, modify_eq_set _ _ _ _ hj]
  have hjl : j < es.toList.length := (List.getElem?_eq_some_iff.1 hj).1
  rw [hlist]
  constructor
  · intro hx
    obtain ⟨i, hi, ex⟩ := List.getElem_of_mem hx
    rw [List.getElem_set] at ex
    split at ex
    · exact .inl ex.symm
    · rename_i hne
      have hi' : i < es.toList.length := by simpa using hi
      refine .inr ⟨ex ▸ List.getElem_mem hi', fun hk => hne ?_⟩
      have := nodup_at (·.key) hs.2.2 hi' hjl (by
        show (es.toList[i]).key = _
        rw [ex, hk, (List.getElem?_eq_some_iff.1 hj).2])
      exact this.symm
  · rintro (rfl | ⟨hx, hk⟩)
    · exact List.mem_iff_getElem.2 ⟨j, by simpa using hjl, by simp⟩
    · obtain ⟨i, hi, ex⟩ := List.getElem_of_mem hx
      have hne : j ≠ i := by
        rintro rfl
        rw [List.getElem?_eq_getElem hi, ex] at hj
        cases hj
        exact hk rfl
      exact List.mem_iff_getElem.2 ⟨i, by simpa using hi, by rw [List.getElem_set_ne hne]; exact ex⟩

section
variable {w : World} {b : Nat} {F : Pk → Option Value} {m e : TypeId}

/-- m[k], v, ok := m[k] -/
theorem MapV.lookup (h : MapV w b F) (K : PairKey P t) (hm : P.underlying m = some (.map t e)) {z : Value} (hz : (zeroValue e).run P w = .ok z w) (k : Pk) (c : Bool) :
    (Instr.lookup m (.map (some b)) (kv k) c).run P w = .ok (if c then .tuple #[(F k).getD z, .bool (F k).isSome] else (F k).getD z) w := by
  obtain ⟨es, clock, hb, hs, hk, hF⟩ := h
  rcases find_pairs K w k es.toList hk with ⟨h1, h2⟩ | ⟨j, x, h1, h2, h3⟩
  · have : F k = none := by
      cases hf : F k with
      | none => rfl
      | some v =>
        obtain ⟨x, hx, hxk, _⟩ := (hF k v).1 hf
        exact absurd hxk (h2 x hx)
    simp [Instr.lookup, run_underlying hm, MapKept.run_getObj_map hb, K.check w _ k, h1, hz, Result.andThen, this]
  · have : F k = some x.val := (hF k x.val).2 ⟨x, List.mem_of_getElem? h2, h3, rfl⟩
    simp [Instr.lookup, run_underlying hm, MapKept.run_getObj_map hb, K.check w _ k, h1, Result.andThen, this]

/-- look-up in a map that is nil -/
theorem lookup_nil (K : PairKey P t) (hm : P.underlying m = some (.map t e)) {z : Value} (hz : (zeroValue e).run P w = .ok z w) (k : Pk) (c : Bool) :
    (Instr.lookup m (.map none) (kv k) c).run P w = .ok (if c then .tuple #[z, .bool false] else z) w := by
  have h1 : (Instr.findKey t (kv k) []).run P w = .ok none w := by simp [Instr.findKey, run_underlying K.und, Instr.findNow]
  simp [Instr.lookup, run_underlying hm, K.check w _ k, h1, hz, Result.andThen]

/-- the world with block b laid anew -/
theorem setBlock_other (o : Obj) {i : Nat} (h : i ≠ b) : (setBlock w b o).heap[i]? = w.heap[i]? := by
  simp [setBlock, Array.getElem?_setIfInBounds_ne (Ne.symm h)]

/-- m[k] = v -/
theorem MapV.update (h : MapV w b F) (K : PairKey P t) (hm : P.underlying m = some (.map t e)) (k : Pk) (v : Value) :
    ∃ es' clock', (Instr.mapUpdate m (.map (some b)) (kv k) v).run P w = .ok () (setBlock w b (.map es' clock')) ∧ MapV (setBlock w b (.map es' clock')) b (upd F k (some v)) := by
  obtain ⟨es, clock, hb, hs, hk, hF⟩ := h
  rcases find_pairs K w k es.toList hk with ⟨h1, h2⟩ | ⟨j, x, h1, h2, h3⟩
  · refine ⟨es.push ⟨kv k, v, clock⟩, clock + 1, ?_, _, _, heap_setBlock_same hb _, stamped_push hs h2, ?_, ?_⟩
    · simp [Instr.mapUpdate, run_underlying hm, MapKept.run_getObj_map hb, K.check w _ k, h1, MapKept.run_setObj_map _ hb, Result.andThen, setBlock]
    · intro x hx
      simp only [Array.toList_push, List.mem_append, List.mem_singleton] at hx
      rcases hx with hx | rfl
      · exact hk x hx
      · exact ⟨k, rfl⟩
    · intro q u
      simp only [Array.toList_push, List.mem_append, List.mem_singleton]
      by_cases hq : q = k
      · subst hq
        rw [upd_same]
        constructor
        · rintro h; cases h; exact ⟨_, .inr rfl, rfl, rfl⟩
        · rintro ⟨x, hx | rfl, hxk, hxv⟩
          · exact absurd hxk (h2 x hx)
          · rw [← hxv]
      · rw [upd_other F _ hq, hF]
        constructor
        · rintro ⟨x, hx, h⟩; exact ⟨x, .inl hx, h⟩
        · rintro ⟨x, hx | rfl, hxk, hxv⟩
          · exact ⟨x, hx, hxk, hxv⟩
          · exact absurd (kv_inj hxk).symm hq
  · have hj : es[j]? = some x := by simpa using h2
    refine ⟨es.modify j (fun e' => { e' with key := kv k, val := v }), clock, ?_, _, _, heap_setBlock_same hb _,
      stamped_modify hs _ _ (fun _ _ => rfl) (fun e' _ he' => by rw [hj] at he'; cases he'; exact h3.symm), ?_, ?_⟩
    · simp [Instr.mapUpdate, run_underlying hm, MapKept.run_getObj_map hb, K.check w _ k, h1, hj, h3, stays, MapKept.run_setObj_map _ hb, Result.andThen, setBlock]
    · intro y hy
      rcases (mem_modify hs h2 _ y).1 hy with rfl | ⟨hy, _⟩
      · exact ⟨k, rfl⟩
      · exact hk y hy
    · intro q u
      constructor
      · intro hq
        by_cases hqk : q = k
        · subst hqk
          rw [upd_same] at hq
          cases hq
          exact ⟨_, (mem_modify hs h2 _ _).2 (.inl rfl), rfl, rfl⟩
        · rw [upd_other F _ hqk] at hq
          obtain ⟨y, hy, hyk, hyv⟩ := (hF q u).1 hq
          exact ⟨y, (mem_modify hs h2 _ _).2 (.inr ⟨hy, by rw [h3, hyk]; exact fun h => hqk (kv_inj h)⟩), hyk, hyv⟩
      · rintro ⟨y, hy, hyk, hyv⟩
        rcases (mem_modify hs h2 _ y).1 hy with rfl | ⟨hy, hne⟩
        · have : q = k := (kv_inj hyk).symm
          subst this
          rw [upd_same]
          exact congrArg some hyv
        · have hqk : q ≠ k := by rintro rfl; exact hne (hyk.trans h3.symm)
          rw [upd_other F _ hqk]
          exact (hF q u).2 ⟨y, hy, hyk, hyv⟩

/-- the entry at k, found or made -/
theorem MapV.entry (h : MapV w b F) (K : PairKey P t) (hm : P.underlying m = some (.map t e)) {z : Value} (hz : (zeroValue e).run P w = .ok z w) (k : Pk) :
    ∃ es' clock' s, (Instr.mapEntry m (.map (some b)) (kv k)).run P w = .ok (.tuple #[(F k).getD z, .int .i64 s]) (setBlock w b (.map es' clock')) ∧ MapE (setBlock w b (.map es' clock')) b k s (upd F k (some ((F k).getD z))) := by
  obtain ⟨es, clock, hb, hs, hk, hF⟩ := h
  rcases find_pairs K w k es.toList hk with ⟨h1, h2⟩ | ⟨j, x, h1, h2, h3⟩
  · have hf : F k = none := by
      cases hf : F k with
      | none => rfl
      | some v =>
        obtain ⟨x, hx, hxk, _⟩ := (hF k v).1 hf
        exact absurd hxk (h2 x hx)
    rw [hf]
    refine ⟨es.push ⟨kv k, z, clock⟩, clock + 1, clock, ?_, _, _, heap_setBlock_same hb _, stamped_push hs h2, ?_, ?_, ⟨kv k, z, clock⟩, by simp, rfl, rfl⟩
    · simp [Instr.mapEntry, run_underlying hm, MapKept.run_getObj_map hb, K.check w _ k, h1, hz, MapKept.run_setObj_map _ hb, Result.andThen, setBlock, goInt]
    · intro x hx
      simp only [Array.toList_push, List.mem_append, List.mem_singleton] at hx
      rcases hx with hx | rfl
      · exact hk x hx
      · exact ⟨k, rfl⟩
    · intro q u
      simp only [Array.toList_push, List.mem_append, List.mem_singleton, Option.getD_none]
      by_cases hq : q = k
      · subst hq
        rw [upd_same]
        constructor
        · rintro h; cases h; exact ⟨_, .inr rfl, rfl, rfl⟩
        · rintro ⟨x, hx | rfl, hxk, hxv⟩
          · exact absurd hxk (h2 x hx)
          · rw [← hxv]
      · rw [upd_other F _ hq, hF]
        constructor
        · rintro ⟨x, hx, h⟩; exact ⟨x, .inl hx, h⟩
        · rintro ⟨x, hx | rfl, hxk, hxv⟩
          · exact ⟨x, hx, hxk, hxv⟩
          · exact absurd (kv_inj hxk).symm hq
  · have hj : es[j]? = some x := by simpa using h2
    have hf : F k = some x.val := (hF k x.val).2 ⟨x, List.mem_of_getElem? h2, h3, rfl⟩
    have hupd : upd F k (some ((F k).getD z)) = F := by
      funext q
      by_cases hq : q = k
      · subst hq; rw [upd_same, hf]; rfl
      · rw [upd_other F _ hq]
    rw [hupd, hf]
    refine ⟨es.modify j (fun e' => { e' with key := kv k }), clock, x.born, ?_, _, _, heap_setBlock_same hb _,
      stamped_modify hs _ _ (fun _ _ => rfl) (fun e' _ he' => by rw [hj] at he'; cases he'; exact h3.symm), ?_, ?_, { x with key := kv k }, (mem_modify hs h2 _ _).2 (.inl rfl), rfl, rfl⟩
    · simp [Instr.mapEntry, run_underlying hm, MapKept.run_getObj_map hb, K.check w _ k, h1, hj, h3, stays, MapKept.run_setObj_map _ hb, Result.andThen, setBlock, goInt]
    · intro y hy
      rcases (mem_modify hs h2 _ y).1 hy with rfl | ⟨hy, _⟩
      · exact ⟨k, rfl⟩
      · exact hk y hy
    · have same : ({ x with key := kv k } : MapEntry) = x := by rw [← h3]
      intro q u
      rw [hF]
      constructor
      · rintro ⟨y, hy, hyk, hyv⟩
        by_cases hyx : y.key = x.key
        · have := apart hs hy (List.mem_of_getElem? h2) hyx
          subst this
          exact ⟨_, (mem_modify hs h2 _ _).2 (.inl rfl), by rw [same]; exact hyk, by rw [same]; exact hyv⟩
        · exact ⟨y, (mem_modify hs h2 _ _).2 (.inr ⟨hy, hyx⟩), hyk, hyv⟩
      · rintro ⟨y, hy, hyk, hyv⟩
        rcases (mem_modify hs h2 _ y).1 hy with rfl | ⟨hy, hne⟩
        · rw [same] at hyk hyv
          exact ⟨x, List.mem_of_getElem? h2, hyk, hyv⟩
        · exact ⟨y, hy, hyk, hyv⟩

/-- the entry filled -/
theorem MapE.store {k : Pk} {s : Int} (h : MapE w b k s F) (v : Value) :
    ∃ es' clock', (Instr.entryStore m (.map (some b)) (.int .i64 s) v).run P w = .ok () (setBlock w b (.map es' clock')) ∧ MapV (setBlock w b (.map es' clock')) b (upd F k (some v)) := by
  obtain ⟨es, clock, hb, hs, hk, hF, x, hx, hxk, hxs⟩ := h
  obtain ⟨i, hi, hie⟩ := List.getElem_of_mem hx
  have hsome : ∃ j, es.findIdx? (fun e => (e.born : Int) == s) = some j := by
    cases hf : es.findIdx? (fun e => (e.born : Int) == s) with
    | some j => exact ⟨j, rfl⟩
    | none =>
      rw [Array.findIdx?_eq_none_iff] at hf
      have := hf x (by simpa using hx)
      simp [hxs] at this
  obtain ⟨j, hj⟩ := hsome
  obtain ⟨hjl, hjp, _⟩ := Array.findIdx?_eq_some_iff_getElem.1 hj
  have hjx : es[j] = x := by
    have hb2 : (es[j]'hjl).born = x.born := by
      have : ((es[j]'hjl).born : Int) = s := by simpa using hjp
      omega
    have hj' : j < es.toList.length := by simpa using hjl
    have := nodup_at (·.born) hs.2.1 hj' hi (by
      show (es.toList[j]).born = (es.toList[i]).born
      rw [hie]
      simpa using hb2)
    subst this
    simpa using hie
  have h2 : es.toList[j]? = some x := by rw [Array.getElem?_toList, Array.getElem?_eq_getElem hjl, hjx]
  have hj1 : es[j]? = some x := by rw [Array.getElem?_eq_getElem hjl, hjx]
  refine ⟨es.modify j (fun e' => { e' with val := v }), clock, ?_, _, _, heap_setBlock_same hb _,
    stamped_modify hs _ _ (fun _ _ => rfl) (fun _ _ _ => rfl), ?_, ?_⟩
  · simp [Instr.entryStore, MapKept.run_getObj_map hb, asInt, asIntOf, hj, MapKept.run_setObj_map _ hb, Result.andThen, setBlock]
  · intro y hy
    rcases (mem_modify hs h2 _ y).1 hy with rfl | ⟨hy, _⟩
    · exact ⟨k, hxk⟩
    · exact hk y hy
  · intro q u
    constructor
    · intro hq
      by_cases hqk : q = k
      · subst hqk
        rw [upd_same] at hq
        cases hq
        exact ⟨_, (mem_modify hs h2 _ _).2 (.inl rfl), hxk, rfl⟩
      · rw [upd_other F _ hqk] at hq
        obtain ⟨y, hy, hyk, hyv⟩ := (hF q u).1 hq
        exact ⟨y, (mem_modify hs h2 _ _).2 (.inr ⟨hy, by rw [hxk, hyk]; exact fun h => hqk (kv_inj h)⟩), hyk, hyv⟩
    · rintro ⟨y, hy, hyk, hyv⟩
      rcases (mem_modify hs h2 _ y).1 hy with rfl | ⟨hy, hne⟩
      · have : q = k := kv_inj (hyk.symm.trans hxk)
        subst this
        rw [upd_same]
        exact congrArg some hyv
      · have hqk : q ≠ k := by rintro rfl; exact hne (hyk.trans hxk.symm)
        rw [upd_other F _ hqk]
        exact (hF q u).2 ⟨y, hy, hyk, hyv⟩

/-- delete(m, k) -/
theorem MapV.drop {ty : TypeId} (h : MapV w b F) (K : PairKey P t) (hm : P.underlying m = some (.map t e)) (k : Pk) :
    ∃ es' clock', (Builtin.delete_ #[m, t] ty #[.map (some b), kv k]).run P w = .ok (.tuple #[]) (setBlock w b (.map es' clock')) ∧ MapV (setBlock w b (.map es' clock')) b (upd F k none) := by
  obtain ⟨es, clock, hb, hs, hk, hF⟩ := h
  rcases find_pairs K w k es.toList hk with ⟨h1, h2⟩ | ⟨j, x, h1, h2, h3⟩
  · have hf : F k = none := by
      cases hf : F k with
      | none => rfl
      | some v =>
        obtain ⟨x, hx, hxk, _⟩ := (hF k v).1 hf
        exact absurd hxk (h2 x hx)
    have hupd : upd F k none = F := by
      funext q
      by_cases hq : q = k
      · subst hq; rw [upd_same, hf]
      · rw [upd_other F _ hq]
    rw [hupd]
    refine ⟨es, clock, ?_, _, _, heap_setBlock_same hb _, hs, hk, hF⟩
    simp [Builtin.delete_, run_underlying hm, MapKept.run_getObj_map hb, K.check w _ k, h1, MapKept.run_setObj_map _ hb, Result.andThen, setBlock]
  · have hjl : j < es.toList.length := (List.getElem?_eq_some_iff.1 h2).1
    have hjs : j < es.size := by simpa using hjl
    have hsub : (es.eraseIdxIfInBounds j).toList = es.toList.eraseIdx j := by
      unfold Array.eraseIdxIfInBounds
      rw [dif_pos hjs]
      simp
    have hmem : ∀ y, y ∈ es.toList.eraseIdx j ↔ y ∈ es.toList ∧ y.key ≠ x.key := by
      intro y
      rw [List.mem_eraseIdx_iff_getElem?]
      constructor
      · rintro ⟨i, hne, hi⟩
        refine ⟨List.mem_of_getElem? hi, fun hkk => hne ?_⟩
        obtain ⟨hil, hie⟩ := List.getElem?_eq_some_iff.1 hi
        exact nodup_at (·.key) hs.2.2 hil hjl (by
          show (es.toList[i]).key = _
          rw [hie, hkk, (List.getElem?_eq_some_iff.1 h2).2])
      · rintro ⟨hy, hkk⟩
        obtain ⟨i, hil, hie⟩ := List.getElem_of_mem hy
        refine ⟨i, ?_, by rw [List.getElem?_eq_getElem hil, hie]⟩
        rintro rfl
        rw [List.getElem?_eq_getElem hil, hie] at h2
        cases h2
        exact hkk rfl
    refine ⟨es.eraseIdxIfInBounds j, clock, ?_, _, _, heap_setBlock_same hb _, stamped_erase hs j, ?_, ?_⟩
    · simp [Builtin.delete_, run_underlying hm, MapKept.run_getObj_map hb, K.check w _ k, h1, MapKept.run_setObj_map _ hb, Result.andThen, setBlock]
    · intro y hy
      rw [hsub] at hy
      exact hk y ((hmem y).1 hy).1
    · intro q u
      rw [hsub]
      constructor
      · intro hq
        by_cases hqk : q = k
        · subst hqk; rw [upd_same] at hq; cases hq
        · rw [upd_other F _ hqk] at hq
          obtain ⟨y, hy, hyk, hyv⟩ := (hF q u).1 hq
          exact ⟨y, (hmem y).2 ⟨hy, by rw [h3, hyk]; exact fun h => hqk (kv_inj h)⟩, hyk, hyv⟩
      · rintro ⟨y, hy, hyk, hyv⟩
        obtain ⟨hy, hne⟩ := (hmem y).1 hy
        have hqk : q ≠ k := by rintro rfl; exact hne (hyk.trans h3.symm)
        rw [upd_other F _ hqk]
        exact (hF q u).2 ⟨y, hy, hyk, hyv⟩
end
end

theorem two_fields {fs : List Field} (hf : fs.map (fun f => (f.name == "_", f.type, f.offset)) = [(false, 3, 0), (false, 3, 1)]) :
    ∃ f g, fs = [f, g] ∧ ¬ f.name = "_" ∧ f.type = 3 ∧ f.offset = 0 ∧ ¬ g.name = "_" ∧ g.type = 3 ∧ g.offset = 1 := by
  cases fs with
  | nil => cases hf
  | cons f fs =>
    cases fs with
    | nil => simp at hf
    | cons g fs =>
      cases fs with
      | cons _ _ => simp at hf
      | nil =>
        simp at hf
        exact ⟨f, g, rfl, hf.1.1, hf.1.2.1, hf.1.2.2, hf.2.1, hf.2.2.1, hf.2.2.2⟩

theorem pairKey_of {t : TypeId} (hu : Try.prog.underlying t = some (.struct (Try.prog.fieldsOf t))) (hp : Try.prog.stoodInHeld t = false)
    (hf : (Try.prog.fieldsOf t).toList.map (fun f => (f.name == "_", f.type, f.offset)) = [(false, 3, 0), (false, 3, 1)]) : PairKey Try.prog t := by
  have h3 : Try.prog.underlying 3 = some (.int .i64) := by kernel_rfl
  obtain ⟨f, g, hfs, h1, h2, h4, h5, h6, h7⟩ := two_fields hf
  refine ⟨hu, fun w em k => ?_, fun w k k' => ?_⟩
  · show (Instr.checkKey em (9998 + 1 + 1) t (kv k)).run Try.prog w = _
    obtain ⟨a, b⟩ := k
    rw [Instr.checkKey]
    simp only [Sem.run_bind, run_underlying hu, Result.andThen_ok]
    rw [← Array.forIn_toList, hfs]
    have hc : ∀ (q : Int) (w : World), (Instr.checkKey em 9999 3 (.int .i64 q)).run Try.prog w = .ok () w := fun q w => by
      show (Instr.checkKey em (9998 + 1) 3 (.int .i64 q)).run Try.prog w = _
      rw [Instr.checkKey]
      simp [run_underlying h3]
    simp only [List.forIn_cons, h1, h2, h4, h5, h6, h7]
    go_simp
  · show (Op.equalIn (9998 + 1 + 1) t (kv k) (kv k')).run Try.prog w = _
    obtain ⟨a, b⟩ := k
    obtain ⟨c, d⟩ := k'
    rw [run_equalIn_agg w _ _ _ _ hu hp, hfs]
    have hc : ∀ (p q : Int) (w : World), (Op.equalIn 9999 3 (.int .i64 p) (.int .i64 q)).run Try.prog w = .ok (p == q) w := fun p q w => run_equalIn_int w 9998 3 .i64 .i64 p q h3
    simp only [Op.eqFields, h1, h2, h4, h5, h6, h7]
    go_simp
    by_cases e1 : a = c
    · subst e1
      by_cases e2 : b = d
      · subst e2
        simp
      · simp [e2]
    · simp [e1]

/-- the two key types of this program -/
theorem pair70 : PairKey Try.prog 70 := pairKey_of (by kernel_rfl) (by kernel_rfl) (by kernel_rfl)
theorem pair72 : PairKey Try.prog 72 := pairKey_of (by kernel_rfl) (by kernel_rfl) (by kernel_rfl)
theorem map64 : Try.prog.underlying 64 = some (.map 70 3) := by kernel_rfl
theorem map65 : Try.prog.underlying 65 = some (.map 70 46) := by kernel_rfl
theorem map66 : Try.prog.underlying 66 = some (.map 72 46) := by kernel_rfl
theorem zero3 (w : World) : (zeroValue 3).run Try.prog w = .ok (.int .i64 0) w := by kernel_rfl
abbrev zeroL : Value := .agg #[.int .i64 0, .int .i64 0, .int .i64 0, .int .i64 0, .int .i64 0, .bool false]
theorem zero46 (w : World) : (zeroValue 46).run Try.prog w = .ok zeroL w := by kernel_rfl

end Go.Proofs.Ytnhpjmjinchamaa
