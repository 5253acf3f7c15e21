/- The table of leases in memory, and the laws of its maps at the operations. -/
import Derived.Test.YtnhpjmjinchamaaMq
import Derived.Test.YtnhpjmjinchamaaLu
import Derived.StillTailTactics
import Derived.Deep.QuietTactic
import Derived.BigQuiet
import Derived.WalkSpells
import Derived.WalkLawsBesides
set_option linter.unusedVariables false
set_option linter.unusedSimpArgs false
set_option linter.unnecessarySimpa false
namespace Go.Proofs.Ytnhpjmjinchamaa
open Go Go.RowKit Go.MapKept Go.ChangeMaps

/-- a lease -/
structure Ls where
  vol : Int
  frag : Int
  drive : Int
  ext : Int
  gen : Int
  mov : Bool
  deriving DecidableEq

/-- a lease as a value -/
abbrev lv (l : Ls) : Value := .agg #[.int .i64 l.vol, .int .i64 l.frag, .int .i64 l.drive, .int .i64 l.ext, .int .i64 l.gen, .bool l.mov]
abbrev lc (l : Ls) : Array Value := #[.int .i64 l.vol, .int .i64 l.frag, .int .i64 l.drive, .int .i64 l.ext, .int .i64 l.gen, .bool l.mov]
abbrev noL : Ls := ⟨0, 0, 0, 0, 0, false⟩

/-- a table -/
structure Tb where
  g : Pk → Int
  h : Pk → Option Ls
  m : Pk → Option Ls
  u : Pk → Option Ls
  term : Int
  count : Int

/-- the blocks of a table: its cells, and its four maps -/
structure Ids where
  b : Nat
  g : Nat
  h : Nat
  m : Nat
  u : Nat
abbrev Ids.all (i : Ids) : List Nat := [i.b, i.g, i.h, i.m, i.u]
abbrev Ids.ptr (i : Ids) : Value := .pointer (some ⟨i.b, 0, none⟩)

/-- the table at i reads as T -/
structure TbAt (w : World) (i : Ids) (T : Tb) : Prop where
  box : Holds w i.b #[.map (some i.g), .map (some i.h), .map (some i.m), .map (some i.u), .int .i64 T.term, .int .i64 T.count]
  mg : ∃ F, MapV w i.g F ∧ ∀ k, (F k).getD (.int .i64 0) = .int .i64 (T.g k)
  mh : MapV w i.h (fun k => (T.h k).map lv)
  mm : MapV w i.m (fun k => (T.m k).map lv)
  mu : MapV w i.u (fun k => (T.u k).map lv)
  apart : i.all.Nodup

section
variable {w w' : World} {i : Ids} {T : Tb}
theorem TbAt.keep (h : TbAt w i T) {S : List Nat} (ho : Only S w w') (hS : ∀ s ∈ i.all, s ∉ S) : TbAt w' i T := by
  obtain ⟨F, hF, hG⟩ := h.mg
  exact ⟨h.box.only ho (hS _ (by simp)), ⟨F, hF.only ho (hS _ (by simp)), hG⟩, h.mh.only ho (hS _ (by simp)), h.mm.only ho (hS _ (by simp)), h.mu.only ho (hS _ (by simp)), h.apart⟩
theorem TbAt.below (h : TbAt w i T) (ho : Below w.heap.size w w') : TbAt w' i T := h.keep (S := []) (Only.of_below _ ho) (by simp)
theorem TbAt.lt (h : TbAt w i T) : ∀ s ∈ i.all, s < w.heap.size := by
  obtain ⟨F, hF, _⟩ := h.mg
  intro s hs
  simp at hs
  rcases hs with rfl | rfl | rfl | rfl | rfl
  · exact h.box.lt
  · exact hF.lt
  · exact h.mh.lt
  · exact h.mm.lt
  · exact h.mu.lt
theorem nd (h : i.all.Nodup) : (i.b ≠ i.g ∧ i.b ≠ i.h ∧ i.b ≠ i.m ∧ i.b ≠ i.u) ∧ (i.g ≠ i.h ∧ i.g ≠ i.m ∧ i.g ≠ i.u) ∧ (i.h ≠ i.m ∧ i.h ≠ i.u) ∧ i.m ≠ i.u := by
  simpa [Ids.all, not_or] using h
theorem upd_lv (H : Pk → Option Ls) (k : Pk) (o : Option Ls) : (fun k' => ((upd H k o) k').map lv) = upd (fun k => (H k).map lv) k (o.map lv) := upd_map (fun o : Option Ls => o.map lv) H k o

theorem TbAt.turn_g (h : TbAt w i T) {F : Pk → Option Value} {G : Pk → Int} (hF : MapV w' i.g F) (hG : ∀ k, (F k).getD (.int .i64 0) = .int .i64 (G k)) (ho : Only [i.g] w w') : TbAt w' i { T with g := G } := by
  obtain ⟨⟨a1, a2, a3, a4⟩, ⟨b1, b2, b3⟩, _⟩ := nd h.apart
  exact ⟨h.box.only ho (by simp [a1]), ⟨F, hF, hG⟩, h.mh.only ho (by simp [b1.symm]), h.mm.only ho (by simp [b2.symm]), h.mu.only ho (by simp [b3.symm]), h.apart⟩
theorem TbAt.turn_h (h : TbAt w i T) {k : Pk} {o : Option Ls} (hF : MapV w' i.h (upd (fun k => (T.h k).map lv) k (o.map lv))) (ho : Only [i.h] w w') : TbAt w' i { T with h := upd T.h k o } := by
  obtain ⟨⟨a1, a2, a3, a4⟩, ⟨b1, b2, b3⟩, ⟨c1, c2⟩, _⟩ := nd h.apart
  obtain ⟨G, hG, hH⟩ := h.mg
  refine ⟨h.box.only ho (by simp [a2]), ⟨G, hG.only ho (by simp [b1]), hH⟩, ?_, h.mm.only ho (by simp [c1.symm]), h.mu.only ho (by simp [c2.symm]), h.apart⟩
  rw [upd_lv]; exact hF
theorem TbAt.turn_m (h : TbAt w i T) {k : Pk} {o : Option Ls} (hF : MapV w' i.m (upd (fun k => (T.m k).map lv) k (o.map lv))) (ho : Only [i.m] w w') : TbAt w' i { T with m := upd T.m k o } := by
  obtain ⟨⟨a1, a2, a3, a4⟩, ⟨b1, b2, b3⟩, ⟨c1, c2⟩, d1⟩ := nd h.apart
  obtain ⟨G, hG, hH⟩ := h.mg
  refine ⟨h.box.only ho (by simp [a3]), ⟨G, hG.only ho (by simp [b2]), hH⟩, h.mh.only ho (by simp [c1]), ?_, h.mu.only ho (by simp [d1.symm]), h.apart⟩
  rw [upd_lv]; exact hF
theorem TbAt.turn_u (h : TbAt w i T) {k : Pk} {o : Option Ls} (hF : MapV w' i.u (upd (fun k => (T.u k).map lv) k (o.map lv))) (ho : Only [i.u] w w') : TbAt w' i { T with u := upd T.u k o } := by
  obtain ⟨⟨a1, a2, a3, a4⟩, ⟨b1, b2, b3⟩, ⟨c1, c2⟩, d1⟩ := nd h.apart
  obtain ⟨G, hG, hH⟩ := h.mg
  refine ⟨h.box.only ho (by simp [a4]), ⟨G, hG.only ho (by simp [b3]), hH⟩, h.mh.only ho (by simp [c2]), h.mm.only ho (by simp [d1]), ?_, h.apart⟩
  rw [upd_lv]; exact hF
end

/-- a method's world: the table, and the call's own blocks -/
structure St (w0 : World) (i : Ids) (L : List (Nat × Array Value)) (T : Tb) (w : World) : Prop where
  mm : Mm i.all w0 w L
  tb : TbAt w i T
namespace St
variable {w0 w w' : World} {i : Ids} {L : List (Nat × Array Value)} {T : Tb}
theorem start (h : TbAt w i T) : St w i [] T w := ⟨Mm.start w h.lt, h⟩
theorem call (h : St w0 i L T w) (hb : Below w.heap.size w w') : St w0 i L T w' := ⟨h.mm.call hb, h.tb.below hb⟩
theorem drew (h : St w0 i L T w) : St w0 i L T { w with drawn := w.drawn + 1 } := h.call (Below.refl _ _).drew
theorem stable (w0 : World) (i : Ids) (L : List (Nat × Array Value)) (T : Tb) : Stable (St w0 i L T) := fun _ _ h hb => h.call hb
theorem push (h : St w0 i L T w) (b : Nat) (c : Array Value) (t : TypeId) (hn : b = w.heap.size) : St w0 i ((b, c) :: L) T (w.alloc (.cells c t)) := ⟨h.mm.push b c t hn, h.tb.below (below_alloc _ _)⟩
theorem set (h : St w0 i L T w) (k : Nat) {b : Nat} {c : Array Value} (hk : L[k]? = some (b, c)) (n : Nat) (v : Value) : St w0 i (L.set k (b, c.setIfInBounds n v)) T (w.setCell ⟨b, n, none⟩ v) := by
  refine ⟨h.mm.set k hk n v, h.tb.keep (S := [b]) ((Only.refl [b] w).setCell (.inl (by simp)) n v) fun s hs => ?_⟩
  have h1 := h.mm.old s hs
  have h2 := h.mm.ge hk
  simp
  omega
theorem sub_all {s : Nat} (h : s ∈ i.all) : ∀ x ∈ [s], x ∈ i.all := fun x hx => by rw [List.mem_singleton.1 hx]; exact h
theorem turn_g (h : St w0 i L T w) {F : Pk → Option Value} {G : Pk → Int} (hF : MapV w' i.g F) (hG : ∀ k, (F k).getD (.int .i64 0) = .int .i64 (G k)) (ho : Only [i.g] w w') : St w0 i L { T with g := G } w' :=
  ⟨h.mm.turn (ho.mono (sub_all (by simp))), h.tb.turn_g hF hG ho⟩
theorem turn_h (h : St w0 i L T w) {k : Pk} {o : Option Ls} (hF : MapV w' i.h (upd (fun k => (T.h k).map lv) k (o.map lv))) (ho : Only [i.h] w w') : St w0 i L { T with h := upd T.h k o } w' :=
  ⟨h.mm.turn (ho.mono (sub_all (by simp))), h.tb.turn_h hF ho⟩
theorem turn_m (h : St w0 i L T w) {k : Pk} {o : Option Ls} (hF : MapV w' i.m (upd (fun k => (T.m k).map lv) k (o.map lv))) (ho : Only [i.m] w w') : St w0 i L { T with m := upd T.m k o } w' :=
  ⟨h.mm.turn (ho.mono (sub_all (by simp))), h.tb.turn_m hF ho⟩
theorem turn_u (h : St w0 i L T w) {k : Pk} {o : Option Ls} (hF : MapV w' i.u (upd (fun k => (T.u k).map lv) k (o.map lv))) (ho : Only [i.u] w w') : St w0 i L { T with u := upd T.u k o } w' :=
  ⟨h.mm.turn (ho.mono (sub_all (by simp))), h.tb.turn_u hF ho⟩
theorem tb_setAll {b : Nat} (hb : b ∉ i.all) : ∀ (vs : List Value) (n : Nat) (w : World), TbAt w i T → TbAt (setAll w b n vs) i T
  | [], _, _, h => h
  | v :: vs, n, w, h => tb_setAll hb vs (n + 1) _ (h.keep (S := [b]) ((Only.refl [b] w).setCell (.inl (by simp)) n v) fun s hs => by
      intro e
      rw [List.mem_singleton.1 e] at hs
      exact hb hs)
theorem put6 (h : St w0 i L T w) (k : Nat) {b : Nat} {c0 c1 c2 c3 c4 c5 : Value} (hk : L[k]? = some (b, #[c0, c1, c2, c3, c4, c5])) (a0 a1 a2 a3 a4 a5 : Value) :
    St w0 i (L.set k (b, #[a0, a1, a2, a3, a4, a5])) T ((((((w.setCell ⟨b, 0, none⟩ a0).setCell ⟨b, 1, none⟩ a1).setCell ⟨b, 2, none⟩ a2).setCell ⟨b, 3, none⟩ a3).setCell ⟨b, 4, none⟩ a4).setCell ⟨b, 5, none⟩ a5) := by
  refine ⟨h.mm.put6 k hk a0 a1 a2 a3 a4 a5, tb_setAll (fun hb => ?_) [a0, a1, a2, a3, a4, a5] 0 w h.tb⟩
  have h1 := h.mm.old b hb
  have h2 := h.mm.ge hk
  omega
/-- the end of a method -/
theorem out (h : St w0 i L T w) : TbAt w i T ∧ Only i.all w0 w := ⟨h.tb, h.mm.only⟩
end St

theorem getD_lv (o : Option Ls) : (o.map lv).getD zeroL = lv (o.getD noL) := by cases o <;> rfl

section
variable {ops : Array Oper} {rest : List Oper} {o : Oper} {a : Act} {Q : Exit → Act → World → Prop} {w : World} {b : Nat} {H : Pk → Option Ls} {m t : TypeId} {w0 : World} {i : Ids} {L : List (Nat × Array Value)} {T : Tb}
theorem look_ls (x y : Operand) (hg : o.guard = none) (hop : o.op = Op.lookup m x y true) (K : PairKey Try.prog t) (hm : Try.prog.underlying m = some (.map t 46))
    (hx : a.eval x = .map (some b)) (k : Pk) (hy : a.eval y = kv k) (h : MapV w b (fun k => (H k).map lv)) {l : Ls} {c : Bool} (hl : (H k).getD noL = l) (hc : (H k).isSome = c) (hK : wpList Try.prog ops Q rest (a.put o.dst (.tuple #[lv l, .bool c])) w) :
    wpList Try.prog ops Q (o :: rest) a w := by
  refine wpList_look hg x y true hop K hm (zero46 _) hx k hy h ?_
  have e1 : ((H k).map lv).getD zeroL = lv l := by rw [← hl, getD_lv]
  have e2 : ((H k).map lv).isSome = c := by rw [← hc]; cases H k <;> rfl
  simp only [if_true, e1, e2]
  exact hK

theorem put_m (x y u : Operand) (hg : o.guard = none) (hop : o.op = Op.mapUpdate 65 x y u) (hx : a.eval x = .map (some i.m)) (k : Pk) (hy : a.eval y = kv k) (l : Ls) (hv : a.eval u = lv l) (h : St w0 i L T w)
    (hK : ∀ w', Hid (St w0 i L { T with m := upd T.m k (some l) } w') → wpList Try.prog ops Q rest (a.put o.dst undef) w') : wpList Try.prog ops Q (o :: rest) a w :=
  wpList_update hg x y u hop pair70 map65 hx k hy (lv l) hv h.tb.mm fun w' h1 h2 => hK w' (h.turn_m h1 h2)
theorem put_h (x y u : Operand) (hg : o.guard = none) (hop : o.op = Op.mapUpdate 65 x y u) (hx : a.eval x = .map (some i.h)) (k : Pk) (hy : a.eval y = kv k) (l : Ls) (hv : a.eval u = lv l) (h : St w0 i L T w)
    (hK : ∀ w', Hid (St w0 i L { T with h := upd T.h k (some l) } w') → wpList Try.prog ops Q rest (a.put o.dst undef) w') : wpList Try.prog ops Q (o :: rest) a w :=
  wpList_update hg x y u hop pair70 map65 hx k hy (lv l) hv h.tb.mh fun w' h1 h2 => hK w' (h.turn_h h1 h2)
theorem put_u (x y u : Operand) (hg : o.guard = none) (hop : o.op = Op.mapUpdate 66 x y u) (hx : a.eval x = .map (some i.u)) (k : Pk) (hy : a.eval y = kv k) (l : Ls) (hv : a.eval u = lv l) (h : St w0 i L T w)
    (hK : ∀ w', Hid (St w0 i L { T with u := upd T.u k (some l) } w') → wpList Try.prog ops Q rest (a.put o.dst undef) w') : wpList Try.prog ops Q (o :: rest) a w :=
  wpList_update hg x y u hop pair72 map66 hx k hy (lv l) hv h.tb.mu fun w' h1 h2 => hK w' (h.turn_u h1 h2)
theorem drop_m (x y : Operand) (hg : o.guard = none) (hop : o.op = .call { callee := .builtin .delete, args := #[x, y], argTypes := #[65, 70] }) (hx : a.eval x = .map (some i.m)) (k : Pk) (hy : a.eval y = kv k) (h : St w0 i L T w)
    (hK : ∀ w', Hid (St w0 i L { T with m := upd T.m k none } w') → wpList Try.prog ops Q rest (a.put o.dst (.tuple #[])) w') : wpList Try.prog ops Q (o :: rest) a w :=
  wpList_drop hg x y hop pair70 map65 hx k hy h.tb.mm fun w' h1 h2 => hK w' (h.turn_m h1 h2)
theorem drop_u (x y : Operand) (hg : o.guard = none) (hop : o.op = .call { callee := .builtin .delete, args := #[x, y], argTypes := #[66, 72] }) (hx : a.eval x = .map (some i.u)) (k : Pk) (hy : a.eval y = kv k) (h : St w0 i L T w)
    (hK : ∀ w', Hid (St w0 i L { T with u := upd T.u k none } w') → wpList Try.prog ops Q rest (a.put o.dst (.tuple #[])) w') : wpList Try.prog ops Q (o :: rest) a w :=
  wpList_drop hg x y hop pair72 map66 hx k hy h.tb.mu fun w' h1 h2 => hK w' (h.turn_u h1 h2)

theorem look_g_run (h : TbAt w i T) (k : Pk) : (Instr.lookup 64 (.map (some i.g)) (kv k) false).run Try.prog w = .ok (.int .i64 (T.g k)) w := by
  obtain ⟨F, hF, hG⟩ := h.mg
  have := hF.lookup pair70 map64 (zero3 w) k false
  simpa [hG] using this
theorem look_h_run (h : TbAt w i T) (k : Pk) : (Instr.lookup 65 (.map (some i.h)) (kv k) false).run Try.prog w = .ok (lv ((T.h k).getD noL)) w := by
  have := h.mh.lookup pair70 map65 (zero46 w) k false
  rw [getD_lv] at this
  simpa using this

/-- an entry found or made: what is so between -/
structure EnG (w0 : World) (i : Ids) (L : List (Nat × Array Value)) (T : Tb) (k : Pk) (s : Int) (w : World) : Prop where
  st : St w0 i L T w
  ent : ∃ F, MapE w i.g k s F ∧ ∀ k, (F k).getD (.int .i64 0) = .int .i64 (T.g k)
theorem EnG.stable (k : Pk) (s : Int) : Stable (EnG w0 i L T k s) := fun _ _ ⟨h, F, h1, h2⟩ hb => ⟨h.call hb, F, h1.below hb, h2⟩
theorem upd_getD {F : Pk → Option Value} {G : Pk → Int} (hG : ∀ k, (F k).getD (.int .i64 0) = .int .i64 (G k)) (k : Pk) (n : Int) : ∀ k', ((upd F k (some (.int .i64 n))) k').getD (.int .i64 0) = .int .i64 (upd G k n k') := fun k' => by
  by_cases e : k' = k
  · subst e; rw [upd_same, upd_same]; rfl
  · rw [upd_other _ _ e, upd_other _ _ e]; exact hG k'
theorem upd_self {α : Type} (G : Pk → α) (k : Pk) : upd G k (G k) = G := by
  funext k'; by_cases e : k' = k
  · subst e; rw [upd_same]
  · rw [upd_other _ _ e]
theorem entry_g (h : St w0 i L T w) (k : Pk) : ∃ s w', (Instr.mapEntry 64 (.map (some i.g)) (kv k)).run Try.prog w = .ok (.tuple #[.int .i64 (T.g k), .int .i64 s]) w' ∧ EnG w0 i L T k s w' := by
  obtain ⟨F, hF, hG⟩ := h.tb.mg
  obtain ⟨es, cl, s, hr, hE⟩ := hF.entry pair70 map64 (zero3 w) k
  rw [hG] at hr hE
  have e2 : ∀ k', ((upd F k (some (.int .i64 (T.g k)))) k').getD (.int .i64 0) = .int .i64 (T.g k') := by
    have := upd_getD hG k (T.g k)
    rw [upd_self] at this
    exact this
  exact ⟨s, _, hr, h.turn_g hE.mapV e2 (only_setBlock _), _, hE, e2⟩
theorem store_g (x y u : Operand) (hg : o.guard = none) (hop : o.op = Op.entryStore 64 x y u) (hx : a.eval x = .map (some i.g)) {k : Pk} {s : Int} (hy : a.eval y = .int .i64 s) (n : Int) (hv : a.eval u = .int .i64 n) (h : EnG w0 i L T k s w)
    (hK : ∀ w', Hid (St w0 i L { T with g := upd T.g k n } w') → wpList Try.prog ops Q rest (a.put o.dst undef) w') : wpList Try.prog ops Q (o :: rest) a w := by
  obtain ⟨h, F, hE, hG⟩ := h
  exact wpList_estore hg x y u hop hx hy _ hv hE fun w' h1 h2 => hK w' (h.turn_g h1 (upd_getD hG k n) h2)

theorem sRow_entry_g {Q : Act → World → Prop} (x y : Operand) (hg : o.guard = none) (hop : o.op = Op.mapEntry 64 x y) (hx : a.eval x = .map (some i.g)) (k : Pk) (hy : a.eval y = kv k)
    (hk : ∀ s, ∀ K : Act → Prop, (∀ a, sRow Try.prog ops (St w0 i L T) Q rest (EnG w0 i L T k s) a → K a) → K (a.put o.dst (.tuple #[.int .i64 (T.g k), .int .i64 s]))) :
    sRow Try.prog ops (St w0 i L T) Q (o :: rest) (St w0 i L T) a := by
  refine sRow_step (fun u w => ∃ s, u = .tuple #[.int .i64 (T.g k), .int .i64 s] ∧ EnG w0 i L T k s w) hg ?_ ?_ ?_ ?_
  · rintro u w w' ⟨s, rfl, h⟩ hb; exact ⟨s, rfl, EnG.stable k s _ _ h hb⟩
  · rintro u w ⟨s, rfl, h⟩; exact h.st
  · intro w hw
    obtain ⟨s, w', hr, hE⟩ := entry_g hw k
    simp [execOp, hop, hx, hy, hr, Result.andThen, sUpon]
    exact hE
  · rintro u ⟨w, s, rfl, hw⟩ K hK
    refine hk s K fun a ha => hK a ?_
    have e : (fun w => ∃ s', (Value.tuple #[.int .i64 (T.g k), .int .i64 s]) = .tuple #[.int .i64 (T.g k), .int .i64 s'] ∧ EnG w0 i L T k s' w) = EnG w0 i L T k s := by
      funext w
      refine propext ⟨?_, fun h => ⟨s, rfl, h⟩⟩
      rintro ⟨s', h, hw⟩
      simp at h
      subst h
      exact hw
    rw [e]
    exact ha
end
end Go.Proofs.Ytnhpjmjinchamaa
