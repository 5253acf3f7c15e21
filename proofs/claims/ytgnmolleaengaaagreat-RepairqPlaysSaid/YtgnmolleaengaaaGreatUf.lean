/- The reference queue in memory; its New and find. -/
import Derived.Test.YtgnmolleaengaaaGreatRp
import Derived.Test.YtgnmolleaengaaaGreatS6
set_option linter.unusedVariables false
set_option linter.unusedSimpArgs false
set_option linter.unnecessarySimpa false
namespace Go.Proofs.YtgnmolleaengaaaGreat
open Go Go.RowKit

/-- the reference queue at rb -/
structure Rq (rb : Nat) (slots : Int) (M : List En) (w : World) : Prop where
  c0 : w.cell? ⟨rb, 0, none⟩ = some (.int .i64 slots)
  row : ∃ v, w.cell? ⟨rb, 1, none⟩ = some v ∧ World.ownsRow w 0 107 9 v M.length (eE.flat M)
  thaw : Thaw w rb
  ty : TyB w rb 71
  frac : ∀ x ∈ M, Ru w x.num (limb x.j.n) ∧ Ru w x.den (limb x.j.d)
  ok : ∀ x ∈ M, OkJ x.j
namespace Rq
variable {rb : Nat} {slots : Int} {M M' : List En} {w w' : World}
theorem only {S : List Nat} (h : Rq rb slots M w) (ho : Only S w w') (hS : ∀ s ∈ S, ∃ t, TyB w s t ∧ t ≠ 71 ∧ t ≠ 107 ∧ t ≠ 94) : Rq rb slots M w' := by
  have hr : rb ∉ S := fun q => by obtain ⟨t, h1, h2, -, -⟩ := hS rb q; exact h2 (h1.uniq h.ty)
  have hb := ho.block rb h.ty.lt hr
  obtain ⟨v, h1, h2⟩ := h.row
  refine ⟨(World.cell?_of_block (a := ⟨rb, 0, none⟩) hb).trans h.c0, ⟨v, (World.cell?_of_block (a := ⟨rb, 1, none⟩) hb).trans h1, owns_same h2 fun k hk => ho.block k (h2.lt k hk).2 fun q => ?_⟩, h.thaw.same hb, h.ty.same hb, fun x hx => ?_, h.ok⟩
  · obtain ⟨t, q1, -, q2, -⟩ := hS k q; exact q2 (q1.uniq (owns_ty h2 hk))
  · have h94 : ∀ s ∈ S, ∃ t, TyB w s t ∧ t ≠ 94 := fun s hs => by obtain ⟨t, h1, -, -, h2⟩ := hS s hs; exact ⟨t, h1, h2⟩
    exact ⟨(h.frac x hx).1.only ho h94, (h.frac x hx).2.only ho h94⟩
theorem keep (h : Rq rb slots M w) (hb : Below w.heap.size w w') : Rq rb slots M w' := h.only (Only.of_below [] hb) (fun s hs => by cases hs)
theorem qt {B : Nat} (h : Rq rb slots M w) (hq : Qt B w w') : Rq rb slots M w' := by
  have hb := hq.block rb h.ty.lt (.inr ⟨fun q => absurd (q.uniq h.ty) (by decide), fun q => absurd (q.uniq h.ty) (by decide)⟩)
  obtain ⟨v, h1, h2⟩ := h.row
  exact ⟨(World.cell?_of_block (a := ⟨rb, 0, none⟩) hb).trans h.c0, ⟨v, (World.cell?_of_block (a := ⟨rb, 1, none⟩) hb).trans h1, owns_same h2 fun k hk => hq.block k (h2.lt k hk).2 (.inr ⟨fun q => absurd (q.uniq (owns_ty h2 hk)) (by decide), fun q => absurd (q.uniq (owns_ty h2 hk)) (by decide)⟩)⟩, h.thaw.same hb, h.ty.same hb, fun x hx => ⟨(h.frac x hx).1.qt hq, (h.frac x hx).2.qt hq⟩, h.ok⟩
/-- the list reads as M -/
theorem list (h : Rq rb slots M w) (hl : M.length ≤ 1000000) : ∃ a cap, w.cell? ⟨rb, 1, none⟩ = some (.slice a M.length cap) ∧ Rd eE w (.slice a M.length cap) M := by
  obtain ⟨v, h1, h2⟩ := h.row
  have ho : Ow eE 107 (cut 0 w) w v M := ow_cut h2 (Nat.zero_le _)
  obtain ⟨a, cap, rfl⟩ := ho.val
  exact ⟨a, cap, h1, ho.rd hl⟩
/-- a new list is laid -/
theorem put {x : World} {v : Value} (h : Rq rb slots M w) (ho : Ow eE 107 w x v M') (hf : ∀ y ∈ M', Ru w y.num (limb y.j.n) ∧ Ru w y.den (limb y.j.d)) (hok : ∀ y ∈ M', OkJ y.j) : Rq rb slots M' (x.setCell ⟨rb, 1, none⟩ v) ∧ Only [rb] w (x.setCell ⟨rb, 1, none⟩ v) := by
  have hb := ho.below
  have h2 := h.keep hb
  obtain ⟨u, h1, -⟩ := h2.row
  have hS : Only [rb] x (x.setCell ⟨rb, 1, none⟩ v) := (Only.refl [rb] x).setCell (.inl (by simp)) 1 v
  have ht2 : ∀ s ∈ [rb], ∃ t, TyB x s t ∧ t ≠ 94 := fun s hs => by rw [List.mem_singleton.1 hs]; exact ⟨71, h2.ty, by decide⟩
  refine ⟨⟨(World.cell?_setCell_other _ _ _ _ (by simp)).trans h2.c0, ⟨v, World.cell?_setCell_same _ _ _ h1, owns_same (owns_mono ho.row (Nat.zero_le _)) fun k hk => Below.heap_setCell _ _ _ _ fun e => by
    have e : k = rb := e
    subst e
    exact absurd ((owns_ty ho.row hk).uniq h2.ty) (by decide)⟩, h2.thaw.setCell _ _, h2.ty.setCell _ _, fun y hy => ⟨((hf y hy).1.keep hb).only hS ht2, ((hf y hy).2.keep hb).only hS ht2⟩, hok⟩, (Only.of_below [rb] hb).trans hS⟩
end Rq
theorem Qp.only {B qb : Nat} {slots : Int} {L : List En} {w w' : World} {S : List Nat} (h : Qp B qb slots L w) (ho : Only S w w') (hS : ∀ s ∈ S, ∃ t, TyB w s t ∧ t ≠ 68 ∧ t ≠ 76 ∧ t ≠ 94) : Qp B qb slots L w' := by
  have hr : qb ∉ S := fun q => by obtain ⟨t, h1, h2, -, -⟩ := hS qb q; exact h2 (h1.uniq h.ty)
  have hb := ho.block qb h.ty.lt hr
  have h94 : ∀ s ∈ S, ∃ t, TyB w s t ∧ t ≠ 94 := fun s hs => by obtain ⟨t, h1, -, -, h2⟩ := hS s hs; exact ⟨t, h1, h2⟩
  obtain ⟨v, h1, h2⟩ := h.row
  exact ⟨(World.cell?_of_block (a := ⟨qb, 0, none⟩) hb).trans h.c0, ⟨v, (World.cell?_of_block (a := ⟨qb, 1, none⟩) hb).trans h1, owns_same h2 fun k hk => ho.block k (h2.lt k hk).2 fun q => by
    obtain ⟨t, q1, -, q2, -⟩ := hS k q
    exact q2 (q1.uniq (owns_ty h2 hk))⟩, h.thaw.same hb, h.ty.same hb, h.base, fun x hx => ⟨(h.frac x hx).1.only ho h94, (h.frac x hx).2.only ho h94⟩, h.ok⟩
/-- what a turn of the reference queue leaves of the queue -/
theorem Qp.turn {B qb rb : Nat} {slots : Int} {L : List En} {w w' : World} (h : Qp B qb slots L w) (ho : Only [rb] w w') (ht : TyB w rb 71) : Qp B qb slots L w' :=
  h.only ho fun s hs => by rw [List.mem_singleton.1 hs]; exact ⟨71, ht, by decide, by decide, by decide⟩

namespace Rq
variable {qb : Nat} {slots : Int} {L : List En} {w w' : World}
/-- an entry's mark is turned -/
theorem mark {g n cap i : Nat} {x x' : En} {b : Bool} {j : Nat} (h : Rq qb slots L w) (c1 : w.cell? ⟨qb, 1, none⟩ = some (.slice (some ⟨g, 0, none⟩) n cap)) (hn : L.length = n) (hx : L[i]? = some x) (hj : j < 9) (hf : eE.f x' = (eE.f x).set j (.bool b)) (hjj : x'.j = x.j) (hnum : x'.num = x.num) (hden : x'.den = x.den) :
    Rq qb slots (L.set i x') (w.setCell ⟨g, i * 9 + j, none⟩ (.bool b)) := by
  obtain ⟨v, h1, h2⟩ := h.row
  rw [c1] at h1
  cases h1
  rw [hn] at h2
  obtain ⟨s1, s2⟩ := h2.stored (i * 9 + j) (.bool b)
  have hg := owns_ty h2 rfl
  have hne : g ≠ qb := fun e => by subst e; exact absurd (hg.uniq h.ty) (by decide)
  refine ⟨(World.cell?_setCell_other _ _ _ _ (by simp [hne])).trans h.c0, ⟨_, (World.cell?_setCell_other _ _ _ _ (by simp [hne])).trans c1, ?_⟩, h.thaw.setCell _ _, h.ty.setCell _ _, fun y hy => ?_, fun y hy => ?_⟩
  · rw [List.length_set, hn, flat_set (E := eE) hj hf L i hx]
    exact s1
  · rcases List.mem_or_eq_of_mem_set hy with hy | rfl
    · exact ⟨(h.frac y hy).1.set hg (by decide) _ _, (h.frac y hy).2.set hg (by decide) _ _⟩
    · have := h.frac x (List.mem_of_getElem? hx)
      rw [hjj, hnum, hden]
      exact ⟨this.1.set hg (by decide) _ _, this.2.set hg (by decide) _ _⟩
  · rcases List.mem_or_eq_of_mem_set hy with hy | rfl
    · exact h.ok y hy
    · rw [hjj]
      exact h.ok x (List.mem_of_getElem? hx)
end Rq
/-- the reference queue with its row at g -/
structure RAt (qb g cap : Nat) (slots : Int) (L : List En) (n : Nat) (w : World) : Prop where
  q : Rq qb slots L w
  len : L.length = n
  c1 : w.cell? ⟨qb, 1, none⟩ = some (.slice (some ⟨g, 0, none⟩) n cap)
theorem Rq.at {qb : Nat} {slots : Int} {L : List En} {w : World} {n : Nat} (h : Rq qb slots L w) (hn : L.length = n) (h0 : 0 < n) : ∃ g cap, RAt qb g cap slots L n w := by
  obtain ⟨v, h1, h2⟩ := h.row
  rw [hn] at h2
  rcases h2.2 with ⟨_, hz⟩ | ⟨g, cap, cur, e, _⟩
  · omega
  · exact ⟨g, cap, h, hn, by rw [h1, e]⟩
namespace RAt
variable {qb g cap n : Nat} {slots : Int} {L : List En} {w w' : World}
theorem own (h : RAt qb g cap slots L n w) : w.ownsRow 0 107 9 (.slice (some ⟨g, 0, none⟩) n cap) n (eE.flat L) := by
  obtain ⟨v, h1, h2⟩ := h.q.row
  rw [h.c1] at h1
  cases h1
  rw [h.len] at h2
  exact h2
theorem ty (h : RAt qb g cap slots L n w) : TyB w g 107 := owns_ty h.own rfl
theorem caps (h : RAt qb g cap slots L n w) : n ≤ cap ∧ cap ≤ 9223372036854775807 := by
  rcases h.own.2 with ⟨h0, _⟩ | ⟨g', cap', cur, he, _, _, h1, h2, _⟩
  · cases h0
  · cases he; unfold maxLen at h2; exact ⟨h1, h2⟩
theorem ne (h : RAt qb g cap slots L n w) : g ≠ qb := h.ty.ne h.q.ty (by decide)
theorem cell (h : RAt qb g cap slots L n w) {i j : Nat} {x : En} {v : Value} (hi : L[i]? = some x) (hj : (ec x).toList[j]? = some v) : w.cell? ⟨g, i * 9 + j, none⟩ = some v := by
  have hjl : j < 9 := (List.getElem?_eq_some_iff.1 hj).1
  have hil : i < n := by rw [← h.len]; exact (List.getElem?_eq_some_iff.1 hi).1
  rw [h.own.cellAt _ (by omega)]
  exact (flat_get (E := eE) L i x j hi hjl).trans hj
theorem entry (h : RAt qb g cap slots L n w) {i : Nat} {x : En} (hi : L[i]? = some x) :
    w.cell? ⟨g, i * 9, none⟩ = some (.int .i64 x.j.vol) ∧ w.cell? ⟨g, i * 9 + 1, none⟩ = some (.int .i64 x.j.frag) ∧ w.cell? ⟨g, i * 9 + 2, none⟩ = some (.int .i64 x.j.cls) ∧ w.cell? ⟨g, i * 9 + 3, none⟩ = some (.bool false) ∧ w.cell? ⟨g, i * 9 + 4, none⟩ = some x.num ∧ w.cell? ⟨g, i * 9 + 5, none⟩ = some x.den ∧ w.cell? ⟨g, i * 9 + 6, none⟩ = some (.int .i64 x.j.rem) ∧ w.cell? ⟨g, i * 9 + 7, none⟩ = some (.bool x.run) ∧ w.cell? ⟨g, i * 9 + 8, none⟩ = some (.bool x.held) :=
  ⟨h.cell (j := 0) hi rfl, h.cell (j := 1) hi rfl, h.cell (j := 2) hi rfl, h.cell (j := 3) hi rfl, h.cell (j := 4) hi rfl, h.cell (j := 5) hi rfl, h.cell (j := 6) hi rfl, h.cell (j := 7) hi rfl, h.cell (j := 8) hi rfl⟩
theorem cold (h : RAt qb g cap slots L n w) (o : Nat) : w.frozen? ⟨g, o, none⟩ = false := h.own.frozenAt o
theorem keep (h : RAt qb g cap slots L n w) (hb : Below w.heap.size w w') : RAt qb g cap slots L n w' := ⟨h.q.keep hb, h.len, (hb.cell (p := ⟨qb, 1, none⟩) h.q.ty.lt).trans h.c1⟩
theorem mark (h : RAt qb g cap slots L n w) {i j : Nat} {x x' : En} {b : Bool} (hx : L[i]? = some x) (hj : j < 9) (hf : eE.f x' = (eE.f x).set j (.bool b)) (hjj : x'.j = x.j) (hnum : x'.num = x.num) (hden : x'.den = x.den) :
    RAt qb g cap slots (L.set i x') n (w.setCell ⟨g, i * 9 + j, none⟩ (.bool b)) :=
  ⟨h.q.mark h.c1 h.len hx hj hf hjj hnum hden, by rw [List.length_set]; exact h.len, (World.cell?_setCell_other _ _ _ _ (by simp [h.ne])).trans h.c1⟩
theorem setRun (h : RAt qb g cap slots L n w) {i : Nat} {x : En} {b : Bool} (hx : L[i]? = some x) : RAt qb g cap slots (L.set i (setRun b x)) n (w.setCell ⟨g, i * 9 + 7, none⟩ (.bool b)) :=
  h.mark hx (by decide) rfl rfl rfl rfl
theorem setHeld (h : RAt qb g cap slots L n w) {i : Nat} {x : En} (hx : L[i]? = some x) : RAt qb g cap slots (L.set i { x with held := true }) n (w.setCell ⟨g, i * 9 + 8, none⟩ (.bool true)) :=
  h.mark hx (by decide) rfl rfl rfl rfl
theorem rd (h : RAt qb g cap slots L n w) (hl : n ≤ 1000000) : Rd eE w (.slice (some ⟨g, 0, none⟩) n cap) L := by
  obtain ⟨a, c, q1, q2⟩ := h.q.list (by rw [h.len]; exact hl)
  rw [h.c1, h.len] at q1
  cases q1
  rw [h.len] at q2
  exact q2
end RAt
/-- a new list, not empty, has been laid -/
theorem Rq.putAt {rb : Nat} {slots : Int} {M M' : List En} {w x : World} {p : Option Addr} {n c : Nat} (h : Rq rb slots M w) (ho : Ow eE 107 w x (.slice p n c) M') (hn : M'.length = n) (h0 : 0 < n) (hf : ∀ y ∈ M', Ru w y.num (limb y.j.n) ∧ Ru w y.den (limb y.j.d)) (hok : ∀ y ∈ M', OkJ y.j) :
    ∃ g, p = some ⟨g, 0, none⟩ ∧ w.heap.size ≤ g ∧ g ≠ rb ∧ RAt rb g c slots M' n (x.setCell ⟨rb, 1, none⟩ (.slice (some ⟨g, 0, none⟩) n c)) ∧ Only [rb] w (x.setCell ⟨rb, 1, none⟩ (.slice (some ⟨g, 0, none⟩) n c)) := by
  cases p with
  | none => obtain ⟨e, -, -⟩ := ho.bare; omega
  | some a =>
    obtain ⟨-, -, e1, e2⟩ := ho.cap
    obtain ⟨g, off, sp⟩ := a
    cases (show sp = none from e1)
    cases (show off = 0 from e2)
    obtain ⟨p1, p2⟩ := h.put ho hf hok
    have hge := (ho.row.lt g rfl).1
    have hb := ho.below
    obtain ⟨u, h1, -⟩ := (h.keep hb).row
    have hne : g ≠ rb := fun e => by subst e; exact absurd (h.ty.lt) (by omega)
    exact ⟨g, rfl, hge, hne, ⟨p1, hn, World.cell?_setCell_same _ _ _ h1⟩, p2⟩

theorem info107 : (Tryz.prog.info? 107).map (fun i => (i.zero, i.size, i.bytes)) = some (some (.agg #[.int .i64 0, .int .i64 0, .int .i64 0, .bool false, .slice none 0 0, .slice none 0 0, .int .i64 0, .bool false, .bool false]), 9, 96) := by kernel_rfl
theorem elt69 : Elt 69 107 9 96 := by
  obtain ⟨i, hi, hz0, hz1, hz2⟩ := info_parts info107
  exact ⟨by kernel_rfl, ⟨i, _, hi, hz0, hz1, hz2, rfl⟩, by decide, by decide⟩

theorem rnew_as {n : Nat} (h1 : 1 ≤ n) (h2 : n ≤ 48) (w : World) : Calls Tryz.prog 13 #[.int .i64 n] w fun e w' => ∃ rb, e = .returned (.tuple #[.pointer (some ⟨rb, 0, none⟩), .int .i64 0]) ∧ Rq rb n [] w' ∧ w.heap.size ≤ rb ∧ Below w.heap.size w w' := by
  have q1 : decide ((n : Int) < 1) = false := by simp; omega
  have q2 : decide ((48 : Int) < (n : Int)) = false := by simp; omega
  have hH := Holds.new w #[.int .i64 n, .slice none 0 0] 71
  have HQ := Lib.hid (show Rq w.heap.size n [] (w.alloc (.cells #[.int .i64 n, .slice none 0 0] 71)) from
    ⟨hH.cell 0 _ rfl, ⟨_, hH.cell 1 _ rfl, World.ownsRow_nil _ _ _ _⟩, hH.thaw, TyB.new _ _ _, fun x hx => (by cases hx), fun x hx => (by cases hx)⟩)
  clear hH
  go_enter Tryz.func13, Tryz.ntmps13
  go_wp2_with fail
  go_ret2
  exact ⟨_, rfl, HQ.out, Nat.le_refl _, below_alloc _ _⟩

/-- what the reference's loops see -/
structure Fs (w : World) (rb bk n : Nat) (a : Option Addr) (cap : Nat) (M : List En) (c : Array Value) (wr : World) : Prop where
  below : Below w.heap.size w wr
  c1 : wr.cell? ⟨rb, 1, none⟩ = some (.slice a n cap)
  lt : rb < wr.heap.size
  rd : Rd eE wr (.slice a n cap) M
  box : Holds wr bk c
theorem Fs.keep {w wr wx : World} {rb bk n : Nat} {a : Option Addr} {cap : Nat} {M : List En} {c : Array Value} (h : Fs w rb bk n a cap M c wr) (hb : Below wr.heap.size wr wx) : Fs w rb bk n a cap M c wx :=
  ⟨h.below.trans (hb.mono h.below.size), (hb.cell (p := ⟨rb, 1, none⟩) h.lt).trans h.c1, Nat.lt_of_lt_of_le h.lt hb.size, h.rd.keep hb, h.box.keep hb⟩
theorem Rq.see {rb : Nat} {slots : Int} {M : List En} {w : World} (h : Rq rb slots M w) (hl : M.length ≤ 1000000) (c : Array Value) (t : TypeId) : ∃ a cap, Fs w rb w.heap.size M.length a cap M c (w.alloc (.cells c t)) := by
  have hba := below_alloc w (.cells c t)
  obtain ⟨a, cap, h1, h2⟩ := (h.keep hba).list hl
  exact ⟨a, cap, hba, h1, (h.keep hba).ty.lt, h2, Holds.new w c t⟩

set_option maxRecDepth 20000 in
set_option maxHeartbeats 4000000 in
theorem rfind_as {rb : Nat} {slots : Int} {M : List En} {w : World} (h : Rq rb slots M w) (hl : M.length ≤ 1000) (k : Ky) {r : Int} (hr : idxF k M = r) :
    Calls Tryz.prog 67 #[.pointer (some ⟨rb, 0, none⟩), kv k] w fun e w' => e = .returned (.int .i64 r) ∧ Below w.heap.size w w' := by
  obtain ⟨a, cap, hfs⟩ := h.see (by omega) #[.int .i64 k.1, .int .i64 k.2] 33
  obtain ⟨n, hn⟩ : ∃ n, M.length = n := ⟨_, rfl⟩
  rw [hn] at hl hfs
  have HN := Lib.hid hn
  have HS := Lib.hid hfs
  have HRR := Lib.hid hr
  have hc := hfs.rd.caps
  have hc1 := hc.1
  have hc2 := hc.2.1
  have c1 := hfs.c1
  obtain ⟨k1, k2⟩ := k
  clear h hr hn hfs hc
  go_enter Tryz.func67, Tryz.ntmps67
  go_wp2_with fail
  clear c1
  go_loopw [5] (fun s wr => ∃ i : Nat, s = .int .i64 i ∧ i ≤ n ∧ Hid (Fs w rb w.heap.size n a cap M #[.int .i64 k1, .int .i64 k2] wr) ∧ Hid (∀ (j : Nat) (y : En), j < i → M[j]? = some y → keyB (k1, k2) y = false)) (fun s _ => n - (intOf s).toNat)
  case atStart => exact ⟨0, rfl, Nat.zero_le _, HS, Lib.hid fun j y hj => by omega⟩
  case round =>
    rename World => wr
    clear HS
    obtain ⟨i, rfl, hi, HB, HP⟩ := hrel
    have c1 := HB.out.c1
    by_cases hin : i < n
    · obtain ⟨x, hx⟩ : ∃ x, M[i]? = some x := ⟨M[i]'(by have := HN.out; omega), by simp⟩
      have HX := Lib.hid hx
      obtain ⟨g, off, rfl, hg, hcell⟩ := HB.out.rd.entry hx
      have HCE := Lib.hid hcell
      have hib : (i : Int) < (n : Int) := by omega
      obtain ⟨q, hq⟩ : ∃ q, decide (x.key = (k1, k2)) = q := ⟨_, rfl⟩
      have HQ := Lib.hid (show keyB (k1, k2) x = q from hq)
      have hne := eql_kv x.key (k1, k2)
      rw [hq] at hne
      obtain ⟨⟨a1, a2, a3, a4, n1, d1⟩, na, nc, da, dc, ru, se⟩ := x
      clear hx hcell hq hg
      go_wp2_with fail
      clear c1
      refine wp_region_grow (Below wr.heap.size wr) (by kernel_rfl) (by kernel_rfl) (Below.refl _ _).drew ?_
      repeat first
               | (apply gRow_plain
                  · exact rfl
                  · intro wg hg
                    ((have c1 := (HB.out.keep hg).c1; obtain ⟨b0, b1, b2, b3, b4, b5, b6, b7, b8⟩ := HCE.out _ hg; obtain ⟨u0, u1, -⟩ := (HB.out.keep hg).box.lay2))
                    go_simp
                    first
                      | exact rfl
                      | exact hg
                      | exact ⟨hg, rfl⟩
                      | ((first
| ((with_reducible refine (rkey_as ⟨a1, a2, a3, a4, n1, d1⟩ _ _ _ _ _ _ _).mono ?_); rintro e w' ⟨rfl, hb⟩; exact ⟨rfl, hg.trans (hb.mono hg.size)⟩)))
                  intro K hK
                  go_simp
                  refine hK _ ?_
                  clear hK K)
               | (apply gRow_step
                  · go_simp; done
                  · intro wg hg
                    ((have c1 := (HB.out.keep hg).c1; obtain ⟨b0, b1, b2, b3, b4, b5, b6, b7, b8⟩ := HCE.out _ hg; obtain ⟨u0, u1, -⟩ := (HB.out.keep hg).box.lay2))
                    go_simp
                    first
                      | exact rfl
                      | exact hg
                      | exact ⟨hg, rfl⟩
                      | ((first
| ((with_reducible refine (rkey_as ⟨a1, a2, a3, a4, n1, d1⟩ _ _ _ _ _ _ _).mono ?_); rintro e w' ⟨rfl, hb⟩; exact ⟨rfl, hg.trans (hb.mono hg.size)⟩)))
                  intro K hK
                  go_simp
                  refine hK _ ?_
                  clear hK K)
               | (apply gRow_not
                  · go_simp; done
                  intro K hK
                  go_simp
                  refine hK _ ?_
                  clear hK K)
      refine gRow_nil ?_
      intro wy hby
      have HBY := Lib.hid (HB.out.keep hby)
      clear hby
      cases q with
      | true =>
        go_wp2_with fail
        go_ret
        exact ⟨by rw [← HRR.out, idxF_some HX.out HQ.out HP.out]; rfl, HBY.out.below⟩
      | false =>
        go_wp2_with fail
        go_roundw
        case rel =>
          refine ⟨i + 1, by go_num, by omega, HBY, Lib.hid fun j y hj hy => ?_⟩
          by_cases e : j < i
          · exact HP.out j y e hy
          · obtain rfl : j = i := by omega
            have := HX.out
            rw [hy] at this
            cases this
            exact HQ.out
        case measure => simp [intOf]; omega
    · obtain rfl : i = n := by omega
      go_wp2_with fail
      go_ret
      exact ⟨by rw [← HRR.out, idxF_none (fun y hy => by obtain ⟨j, hj, rfl⟩ := List.getElem_of_mem hy; exact HP.out j _ (by have := HN.out; omega) (by simp))]; rfl, HB.out.below⟩
end Go.Proofs.YtgnmolleaengaaaGreat

/- The reference queue's Remove and Seal. -/
namespace Go.Proofs.YtgnmolleaengaaaGreat
open Go Go.RowKit

/-- what a call leaves of the reference queue -/
def RqPost (rb : Nat) (slots : Int) (M : List En) (r : Int) (w : World) (e : Ending) (w' : World) : Prop := e = .returned (.int .i64 r) ∧ Rq rb slots M w' ∧ Only [rb] w w'

theorem rremove_no {rb : Nat} {slots : Int} {M : List En} {w : World} (h : Rq rb slots M w) (hl : M.length ≤ 1000) {k : Ky} (hi : idxF k M = -1) : Calls Tryz.prog 39 #[.pointer (some ⟨rb, 0, none⟩), kv k] w fun e w' => e = .returned (.int .i64 110) ∧ Below w.heap.size w w' := by
  have HB := Lib.hid (below_alloc w (.cells #[.int .i64 k.1, .int .i64 k.2] 33))
  have HF := Lib.hid (rfind_as (h.keep HB.out) hl k hi)
  clear h
  obtain ⟨k1, k2⟩ := k
  go_enter Tryz.func39, Tryz.ntmps39
  go_wp2_with (go_at_call 67; (with_reducible refine HF.out.mono ?_); rintro e w1 ⟨rfl, hb⟩; have HB1 := Lib.hid (HB.out.trans (hb.mono HB.out.size)); clear hb)
  go_ret
  exact ⟨rfl, HB1.out⟩


set_option maxRecDepth 20000 in
set_option maxHeartbeats 4000000 in
theorem rremove_yes {rb : Nat} {slots : Int} {M : List En} {w : World} (h : Rq rb slots M w) (hl : M.length ≤ 1000) {k : Ky} {i : Nat} (hi : idxF k M = (i : Int)) : Calls Tryz.prog 39 #[.pointer (some ⟨rb, 0, none⟩), kv k] w (RqPost rb slots (M.eraseIdx i) 0 w) := by
  obtain ⟨x, hx, -⟩ := idxF_spec hi
  have hil : i < M.length := (List.getElem?_eq_some_iff.1 hx).1
  have HB := Lib.hid (below_alloc w (.cells #[.int .i64 k.1, .int .i64 k.2] 33))
  have HF := Lib.hid (rfind_as (h.keep HB.out) hl k hi)
  obtain ⟨n, hn⟩ : ∃ n, M.length = n := ⟨_, rfl⟩
  have HN := Lib.hid hn
  obtain ⟨g, cap, hqa⟩ := h.at hn (by omega)
  have HQ0 := Lib.hid (hqa.keep HB.out)
  have hneg : decide ((i : Int) < 0) = false := by simp
  rw [hn] at hl hil
  clear h hqa hx hi hn
  obtain ⟨k1, k2⟩ := k
  unfold RqPost
  go_enter Tryz.func39, Tryz.ntmps39
  go_wp2_with (go_at_call 67; (with_reducible refine HF.out.mono ?_); rintro e w1 ⟨rfl, hb⟩; have HQ := Lib.hid (HQ0.out.keep hb); have HB1 := Lib.hid (HB.out.trans (hb.mono HB.out.size)); clear hb)
  (
    have HD := Lib.hid (show Rd eE w1 (.slice (some ⟨g, 0, none⟩) n cap) M from (by
      obtain ⟨a, c, q1, q2⟩ := HQ.out.q.list (by have := HN.out; omega)
      rw [HQ.out.c1, HN.out] at q1
      cases q1
      rw [HN.out] at q2
      exact q2))
    have hnc := HQ.out.caps.1
    have hcm := HQ.out.caps.2
    have hlt := HQ.out.q.ty.lt
    have hth := HQ.out.q.thaw 1
    have c1 := HQ.out.c1
    have HS1 := Lib.hid (show Src w1 (.slice (some ⟨g, 0, none⟩) i cap) 9 i (eE.flat (M.take i)) from HD.out.head (by have := HN.out; omega) cap)
    have HS2 := Lib.hid (show Src w1 (.slice (some ⟨g, (i + 1) * 9, none⟩) (n - (i + 1)) (cap - (i + 1))) 9 (n - (i + 1)) (eE.flat (M.drop (i + 1))) from (by
      have := HD.out.tail (i := i + 1) HN.out (by have := HN.out; omega) (cap - (i + 1))
      rw [Nat.zero_add] at this
      exact this))
    have hic : i ≤ cap := by omega
    have hin : i + 1 ≤ n := by omega
    have hin2 : (i : Int) + 1 ≤ (n : Int) := by omega
    have hw : IntKind.i64.wrap ((i : Int) + 1) = (i : Int) + 1 := IntWalk.i64_in _ (by omega)
    have hw0 : (0 : Int) ≤ (i : Int) + 1 := by omega
    have hwn : ((i : Int) + 1).toNat = i + 1 := by omega
    have HL' : Hid ((M.eraseIdx i).length = i + (n - (i + 1)) ∧ eE.flat (M.eraseIdx i) = ([] ++ eE.flat (M.take i)) ++ eE.flat (M.drop (i + 1))) := by
      have := HN.out
      rw [List.eraseIdx_eq_take_drop_succ]
      refine ⟨?_, by rw [flat_app]; simp⟩
      rw [List.length_append, List.length_take, List.length_drop]
      omega
    have HE : Hid (i + 1 = n → M.drop (i + 1) = []) := fun e => List.drop_of_length_le (by have := HN.out; omega)
    obtain ⟨sa, hif⟩ : ∃ sa, (if cap = i + 1 then some (⟨g, 0, none⟩ : Addr) else some ⟨g, (i + 1) * 9, none⟩) = sa := ⟨_, rfl⟩
    have HS3 := Lib.hid (show Src w1 (.slice sa (n - (i + 1)) (cap - (i + 1))) 9 (n - (i + 1)) (eE.flat (M.drop (i + 1))) by
      by_cases hc : i + 1 < n
      · rw [← hif, if_neg (by omega)]
        exact HS2.out
      · rw [HE.out (by omega), show n - (i + 1) = 0 by omega]
        exact src_none _ _)
    have hm2 : i + (n - (i + 1)) ≤ 10000 := by omega
    have hm1 : 0 + i ≤ 10000 := by omega
    clear HD
    refine wp_region_pick_tail (Below w1.heap.size w1) (AS w1 107 9 (.slice none 0 0) 0 [] []) [0, 1, 2, 3, 4, 5, 6, 8, 9, 10, 11, 12, 13, 14] 2 16 (by kernel_rfl) ?_ AS.stable AS.base (AS.start w1 107 9) ?_
    · kernel_rfl
    repeat (apply pRow_plain
            · exact rfl
            · exact rfl
            · intro wg hg
              ((have d1 := (hg.cell (p := ⟨rb, 1, none⟩) hlt).trans c1))
              go_simp
              first
                | exact rfl
                | exact Below.refl _ _
                | exact ⟨Below.refl _ _, rfl⟩
                | ((fail))
            intro K hK
            go_simp
            refine hK _ ?_
            clear hK K)
    refine pRow_nil ?_
    refine lAnyL_step [7] ?_ (by simp) (by decide) ?_
    · kernel_rfl
    intro j hj
    obtain rfl : j = 7 := by simpa using hj
    refine lOp_app elt69 _ _ rfl rfl rfl rfl rfl (fun wg hg => HS1.out.below hg.below) hm1 ?_
    intro u1
    go_simp
    refine lAnyL_step [15] ?_ (by simp) (by decide) ?_
    · kernel_rfl
    intro j hj
    obtain rfl : j = 15 := by simpa using hj
    refine lOp_app elt69 _ _ rfl rfl rfl rfl rfl (fun wg hg => HS3.out.below hg.below) hm2 ?_
    intro u2
    go_simp
    refine ⟨?_, ?_⟩
    · kernel_rfl
    intro wg hg
    obtain ⟨ua, ucap, rfl⟩ := owns_val hg.row
    have HG := Lib.hid (show Ow eE 107 w1 wg (.slice ua (i + (n - (i + 1))) ucap) (M.eraseIdx i) from own_of hg HL'.out.1.symm HL'.out.2.symm)
    have HP := Lib.hid (HQ.out.q.put HG.out (fun y hy => HQ.out.q.frac y (List.mem_of_mem_eraseIdx hy)) (fun y hy => HQ.out.q.ok y (List.mem_of_mem_eraseIdx hy)))
    have d1 := (hg.below.cell (p := ⟨rb, 1, none⟩) hlt).trans c1
    have e1 := (hg.below.frozen (p := ⟨rb, 1, none⟩) hlt).trans hth
    clear hg)
  go_wp2_with fail
  go_ret
  exact ⟨rfl, HP.out.1, (Only.of_below [rb] HB1.out).trans HP.out.2⟩

set_option maxRecDepth 20000 in
theorem rheld_no {rb : Nat} {slots : Int} {M : List En} {w : World} (h : Rq rb slots M w) (hl : M.length ≤ 1000) {k : Ky} (hi : idxF k M = -1) : Calls Tryz.prog 40 #[.pointer (some ⟨rb, 0, none⟩), kv k] w fun e w' => e = .returned (.int .i64 110) ∧ Below w.heap.size w w' := by
  have HB := Lib.hid (below_alloc w (.cells #[.int .i64 k.1, .int .i64 k.2] 33))
  have HF := Lib.hid (rfind_as (h.keep HB.out) hl k hi)
  clear h
  obtain ⟨k1, k2⟩ := k
  go_enter Tryz.func40, Tryz.ntmps40
  go_wp2_with (go_at_call 67; (with_reducible refine HF.out.mono ?_); rintro e w1 ⟨rfl, hb⟩; have HB1 := Lib.hid (HB.out.trans (hb.mono HB.out.size)); clear hb)
  go_ret
  exact ⟨rfl, HB1.out⟩

set_option maxRecDepth 20000 in
set_option maxHeartbeats 1000000 in
theorem rheld_off {rb : Nat} {slots : Int} {M : List En} {w : World} (h : Rq rb slots M w) (hl : M.length ≤ 1000) {k : Ky} {i : Nat} (hi : idxF k M = (i : Int)) {x : En} (hx : M[i]? = some x) (hr : x.run = false) : Calls Tryz.prog 40 #[.pointer (some ⟨rb, 0, none⟩), kv k] w fun e w' => e = .returned (.int .i64 110) ∧ Below w.heap.size w w' := by
  have hil : i < M.length := (List.getElem?_eq_some_iff.1 hx).1
  have HB := Lib.hid (below_alloc w (.cells #[.int .i64 k.1, .int .i64 k.2] 33))
  have HF := Lib.hid (rfind_as (h.keep HB.out) hl k hi)
  obtain ⟨n, hn⟩ : ∃ n, M.length = n := ⟨_, rfl⟩
  obtain ⟨g, cap, hqa⟩ := h.at hn (by omega)
  have HQ0 := Lib.hid (hqa.keep HB.out)
  have HX := Lib.hid hx
  have HR := Lib.hid (show ((ec x).toList)[7]? = some (.bool false) by rw [← hr]; rfl)
  have hneg : decide ((i : Int) < 0) = false := by simp
  have hc := hqa.caps
  have hc1 := hc.1
  have hc2 := hc.2
  rw [hn] at hl hil
  clear h hqa hx hi hn hr hc
  obtain ⟨k1, k2⟩ := k
  go_enter Tryz.func40, Tryz.ntmps40
  go_wp2_with (go_at_call 67; (with_reducible refine HF.out.mono ?_); rintro e w1 ⟨rfl, hb⟩; have HQ := Lib.hid (HQ0.out.keep hb); have HB1 := Lib.hid (HB.out.trans (hb.mono HB.out.size)); have c1 := HQ.out.c1; have c7 := HQ.out.cell HX.out HR.out; clear hb)
  go_ret
  exact ⟨rfl, HB1.out⟩


set_option maxRecDepth 20000 in
set_option maxHeartbeats 2000000 in
theorem rheld_on {rb : Nat} {slots : Int} {M : List En} {w : World} (h : Rq rb slots M w) (hl : M.length ≤ 1000) {k : Ky} {i : Nat} (hi : idxF k M = (i : Int)) {x : En} (hx : M[i]? = some x) (hr : x.run = true) : Calls Tryz.prog 40 #[.pointer (some ⟨rb, 0, none⟩), kv k] w (RqPost rb slots (M.set i { x with held := true }) 0 w) := by
  have hil : i < M.length := (List.getElem?_eq_some_iff.1 hx).1
  have HB := Lib.hid (below_alloc w (.cells #[.int .i64 k.1, .int .i64 k.2] 33))
  have HF := Lib.hid (rfind_as (h.keep HB.out) hl k hi)
  obtain ⟨n, hn⟩ : ∃ n, M.length = n := ⟨_, rfl⟩
  have HN := Lib.hid hn
  obtain ⟨g, cap, hqa⟩ := h.at hn (by omega)
  have HQ0 := Lib.hid (hqa.keep HB.out)
  have HX := Lib.hid hx
  have HR := Lib.hid (show ((ec x).toList)[7]? = some (.bool true) by rw [← hr]; rfl)
  have hneg : decide ((i : Int) < 0) = false := by simp
  have hc := hqa.caps
  have hc1 := hc.1
  have hc2 := hc.2
  rw [hn] at hl hil
  clear h hqa hx hi hn hr hc
  obtain ⟨k1, k2⟩ := k
  unfold RqPost
  go_enter Tryz.func40, Tryz.ntmps40
  go_wp2_with (first
    | (go_at_call 67; (with_reducible refine HF.out.mono ?_); rintro e w1 ⟨rfl, hb⟩; have HQ := Lib.hid (HQ0.out.keep hb); have HB1 := Lib.hid (HB.out.trans (hb.mono HB.out.size)); have c1 := HQ.out.c1; have c7 := HQ.out.cell HX.out HR.out; have HRD := Lib.hid (HQ.out.rd (by have := HN.out; omega)); clear hb)
    | (at_builtin; refine wpList_more elt69 (E := eE) _ _ rfl rfl rfl rfl (Ow.start 107 w1) HRD.out (by have := HN.out; simp; omega) ?_; intro pp cp w2 HO HG; (
                                                                                                                                                                 have hln : ([] : List En).length + M.length = n := by simp [HN.out]
                                                                                                                                                                 rw [hln] at HO HG ⊢
                                                                                                                                                                 rw [List.nil_append] at HO
                                                                                                                                                                 obtain ⟨g2, rfl, hge, hne, hat, hon⟩ := HQ.out.q.putAt HO.out HN.out (by omega) HQ.out.q.frac HQ.out.q.ok
                                                                                                                                                                 have HGE := Lib.hid hge
                                                                                                                                                                 have HP := Lib.hid (And.intro hat hon)
                                                                                                                                                                 have HZ := Lib.hid (hat.setHeld HX.out)
                                                                                                                                                                 have hlt := HQ.out.q.ty.lt
                                                                                                                                                                 have d1 := (HO.out.below.cell (p := ⟨rb, 1, none⟩) hlt).trans c1
                                                                                                                                                                 have e1 := (HO.out.below.frozen (p := ⟨rb, 1, none⟩) hlt).trans (HQ.out.q.thaw 1)
                                                                                                                                                                 have z8 := hat.cell (j := 8) HX.out rfl
                                                                                                                                                                 have zc := hat.c1
                                                                                                                                                                 have zf := hat.cold (i * 9 + 8)
                                                                                                                                                                 have hcq := hat.caps
                                                                                                                                                                 have hcq1 := hcq.1
                                                                                                                                                                 have hcq2 := hcq.2
                                                                                                                                                                 clear hge hat hon hcq hln)))
  go_ret
  exact ⟨rfl, HZ.out.q, (Only.of_below [rb] HB1.out).trans (HP.out.2.setCell (.inr HGE.out) _ _)⟩
end Go.Proofs.YtgnmolleaengaaaGreat

/- The reference's KeyLess and put: a key is inserted into a list of keys. -/
namespace Go.Proofs.YtgnmolleaengaaaGreat
open Go Go.RowKit

theorem keyless_as (x y : Ky) (w : World) {r : Bool} (hr : ltK x y = r) : Calls Tryz.prog 94 #[kv x, kv y] w fun e w' => e = .returned (.bool r) ∧ Below w.heap.size w w' := by
  have HM := Lib.hid (((Mm.start (S := []) w (by simp)).push w.heap.size #[.int .i64 x.1, .int .i64 x.2] 33 rfl).push (w.heap.size + 1) #[.int .i64 y.1, .int .i64 y.2] 33 (by simp))
  have HB := Lib.hid (HM.out.only.below (B := w.heap.size) (by simp) (Nat.le_refl _))
  have HR := Lib.hid hr
  obtain ⟨x1, x2⟩ := x
  obtain ⟨y1, y2⟩ := y
  clear hr
  by_cases h1 : x1 < y1
  · have q1 : decide (x1 < y1) = true := by simpa using h1
    go_enter Tryz.func94, Tryz.ntmps94
    go_wp2_with fail
    go_ret
    exact ⟨ret_bool (by rw [← HR.out]; unfold ltK; simp; rw [if_neg (by omega)]; simpa using h1), HB.out⟩
  · have q1 : decide (x1 < y1) = false := by simpa using h1
    by_cases h2 : x1 = y1
    · subst h2
      have q2 : (x1 == x1) = true := by simp
      obtain ⟨s, hs⟩ : ∃ s, decide (x2 < y2) = s := ⟨_, rfl⟩
      have HS := Lib.hid hs
      go_enter Tryz.func94, Tryz.ntmps94
      go_wp2_with fail
      go_ret
      exact ⟨ret_bool (by rw [← HR.out, ← HS.out]; unfold ltK; simp), HB.out⟩
    · have q2 : (x1 == y1) = false := by simpa using h2
      go_enter Tryz.func94, Tryz.ntmps94
      go_wp2_with fail
      go_ret
      exact ⟨ret_bool (by rw [← HR.out]; unfold ltK; simp [h2]; omega), HB.out⟩

/-- a key inserted into a list -/
def insK (l : List Ky) (k : Ky) : List Ky := l.takeWhile (fun x => ltK x k) ++ k :: l.dropWhile (fun x => ltK x k)
theorem insK_at {l : List Ky} {k : Ky} {i : Nat} (h1 : ∀ (j : Nat) (x : Ky), j < i → l[j]? = some x → ltK x k = true) (h2 : ∀ x, l[i]? = some x → ltK x k = false) (hi : i ≤ l.length) : insK l k = l.take i ++ k :: l.drop i := by
  have key : l.takeWhile (fun x => ltK x k) = l.take i ∧ l.dropWhile (fun x => ltK x k) = l.drop i := by
    induction l generalizing i with
    | nil => simp
    | cons y l ih =>
      cases i with
      | zero =>
        have := h2 y rfl
        simp [List.takeWhile, List.dropWhile, this]
      | succ i =>
        have e := h1 0 y (by omega) rfl
        have := ih (i := i) (fun j x hj hx => h1 (j + 1) x (by omega) (by simpa using hx)) (fun x hx => h2 x (by simpa using hx)) (by simpa using hi)
        simp [List.takeWhile, List.dropWhile, e, this.1, this.2]
  unfold insK
  rw [key.1, key.2]
theorem insK_len (l : List Ky) (k : Ky) : (insK l k).length = l.length + 1 := by
  unfold insK
  have := congrArg List.length (List.takeWhile_append_dropWhile (p := fun x => ltK x k) (l := l))
  rw [List.length_append] at this
  rw [List.length_append, List.length_cons]
  omega

/-- what the loop of put sees -/
structure Ks (w0 w : World) (bk : Nat) (a : Option Addr) (n cap : Nat) (l : List Ky) (k1 k2 : Int) (wr : World) : Prop where
  below : Below w.heap.size w wr
  ow : Ow eK 33 w0 wr (.slice a n cap) l
  box : Holds wr bk #[.int .i64 k1, .int .i64 k2]
theorem Ks.keep {w0 w wr wx : World} {bk : Nat} {a : Option Addr} {n cap : Nat} {l : List Ky} {k1 k2 : Int} (h : Ks w0 w bk a n cap l k1 k2 wr) (hb : Below wr.heap.size wr wx) : Ks w0 w bk a n cap l k1 k2 wx :=
  ⟨h.below.trans (hb.mono h.below.size), h.ow.grow hb, h.box.keep hb⟩

/-- a new list of keys -/
def NewKeys (w : World) (l : List Ky) (e : Ending) (w' : World) : Prop := ∃ p c, e = .returned (.slice p l.length c) ∧ Ow eK 33 w w' (.slice p l.length c) l



set_option maxRecDepth 20000 in
set_option maxHeartbeats 4000000 in
theorem rput_as {w0 w : World} {a : Option Addr} {n cap : Nat} {l : List Ky} (h : Ow eK 33 w0 w (.slice a n cap) l) (hl : n ≤ 1000) (k : Ky) :
    Calls Tryz.prog 68 #[.slice a n cap, kv k] w (NewKeys w (insK l k)) := by
  have hn : l.length = n := by obtain ⟨a', cap', e⟩ := h.val; cases e; rfl
  have HN := Lib.hid hn
  have hba := below_alloc w (.cells #[.int .i64 k.1, .int .i64 k.2] 33)
  have HB0 := Lib.hid (show Ks w0 w w.heap.size a n cap l k.1 k.2 (w.alloc (.cells #[.int .i64 k.1, .int .i64 k.2] 33)) from ⟨hba, h.grow hba, Holds.new _ _ _⟩)
  have hrd := h.rd (by omega)
  have hc := hrd.caps
  have hc1 := hc.1
  have hc2 := hc.2.1
  obtain ⟨k1, k2⟩ := k
  unfold NewKeys
  clear h hn hba hrd hc
  go_enter Tryz.func68, Tryz.ntmps68
  go_wp2_with fail
  go_loopw [5] (fun s wr => ∃ i : Nat, s = .int .i64 i ∧ i ≤ n ∧ Hid (Ks w0 w w.heap.size a n cap l k1 k2 wr) ∧ Hid (∀ (j : Nat) (x : Ky), j < i → l[j]? = some x → ltK x (k1, k2) = true)) (fun s _ => n - (intOf s).toNat)
  case atStart => exact ⟨0, rfl, Nat.zero_le _, HB0, Lib.hid fun j y hj => by omega⟩
  case round =>
    rename World => wr0
    clear HB0
    obtain ⟨kk, rfl, hi, HB1, HP⟩ := hrel
    by_cases hin : kk < n
    · obtain ⟨x, hx⟩ : ∃ x, l[kk]? = some x := ⟨l[kk]'(by have := HN.out; omega), by simp⟩
      obtain ⟨g, off, rfl, hg, q0, q1⟩ := (HB1.out.ow.rd (by have := HN.out; omega)).key hx
      obtain ⟨-, -, -, hoff⟩ := HB1.out.ow.cap
      cases (show off = 0 from hoff)
      have Q0 := Lib.hid q0
      have Q1 := Lib.hid q1
      have HGL := Lib.hid hg
      have HX := Lib.hid hx
      have hib : decide ((kk : Int) < (n : Int)) = true := by simp; omega
      have hib2 : (kk : Int) < (n : Int) := by omega
      obtain ⟨q, hq⟩ : ∃ q, ltK x (k1, k2) = q := ⟨_, rfl⟩
      have KL : ∀ w, Hid (Calls Tryz.prog 94 #[kv x, kv (k1, k2)] w fun e w' => e = .returned (.bool q) ∧ Below w.heap.size w w') := fun w => Lib.hid (keyless_as x (k1, k2) w hq)
      have HQ := Lib.hid hq
      obtain ⟨x1, x2⟩ := x
      clear hx q0 q1 hg hq hoff
      go_wp2_with fail
      refine wp_region_grow (Below wr0.heap.size wr0) (by kernel_rfl) (by kernel_rfl) (Below.refl _ _).drew ?_
      repeat first
               | (apply gRow_plain
                  · exact rfl
                  · intro wg hg
                    ((have z0 := (hg.cell (p := ⟨g, 0 + kk * 2, none⟩) HGL.out).trans Q0.out; have z1 := (hg.cell (p := ⟨g, 0 + kk * 2 + 1, none⟩) HGL.out).trans Q1.out; simp only [Nat.zero_add] at z0 z1; obtain ⟨u0, u1, -⟩ := (HB1.out.keep hg).box.lay2))
                    go_simp
                    first
                      | exact rfl
                      | exact hg
                      | exact ⟨hg, rfl⟩
                      | ((first
| ((with_reducible refine (KL _).out.mono ?_); rintro e w' ⟨rfl, hb⟩; exact ⟨rfl, hg.trans (hb.mono hg.size)⟩)))
                  intro K hK
                  go_simp
                  refine hK _ ?_
                  clear hK K)
               | (apply gRow_step
                  · go_simp; done
                  · intro wg hg
                    ((have z0 := (hg.cell (p := ⟨g, 0 + kk * 2, none⟩) HGL.out).trans Q0.out; have z1 := (hg.cell (p := ⟨g, 0 + kk * 2 + 1, none⟩) HGL.out).trans Q1.out; simp only [Nat.zero_add] at z0 z1; obtain ⟨u0, u1, -⟩ := (HB1.out.keep hg).box.lay2))
                    go_simp
                    first
                      | exact rfl
                      | exact hg
                      | exact ⟨hg, rfl⟩
                      | ((first
| ((with_reducible refine (KL _).out.mono ?_); rintro e w' ⟨rfl, hb⟩; exact ⟨rfl, hg.trans (hb.mono hg.size)⟩)))
                  intro K hK
                  go_simp
                  refine hK _ ?_
                  clear hK K)
               | (apply gRow_not
                  · go_simp; done
                  intro K hK
                  go_simp
                  refine hK _ ?_
                  clear hK K)
      refine gRow_nil ?_
      intro wr hby
      have HB := Lib.hid (HB1.out.keep hby)
      clear hby HB1
      cases q with
      | true =>
        go_wp2_with fail
        go_roundw
        case rel =>
          refine ⟨kk + 1, by go_num, by omega, HB, Lib.hid fun j y hj hy => ?_⟩
          by_cases e : j < kk
          · exact HP.out j y e hy
          · obtain rfl : j = kk := by omega
            have := HX.out
            rw [hy] at this
            cases this
            exact HQ.out
        case measure => simp [intOf]; omega
      | false =>
        have HNB : Hid (∀ x, l[kk]? = some x → ltK x (k1, k2) = false) := Lib.hid fun x hx => by
          have := HX.out
          rw [hx] at this
          cases this
          exact HQ.out
        go_wp2_with fail
        have hic : kk ≤ cap := by omega
        have hin2 : kk ≤ n := by omega
        have hin3 : (kk : Int) ≤ (n : Int) := by omega
        obtain ⟨sa, hif⟩ : ∃ sa, (if cap = kk then some (⟨g, 0, none⟩ : Addr) else some ⟨g, kk * 2, none⟩) = sa := ⟨_, rfl⟩
        have HS1 := Lib.hid (show Src wr (.slice (some ⟨g, 0, none⟩) kk cap) 2 kk (eK.flat (l.take kk)) from (HB.out.ow.rd (by have := HN.out; omega)).head (by have := HN.out; omega) cap)
        have HS2 := Lib.hid (show Src wr (.slice sa (n - kk) (cap - kk)) 2 (n - kk) (eK.flat (l.drop kk)) by
          have := (HB.out.ow.rd (by have := HN.out; omega)).tail (i := kk) HN.out (by have := HN.out; omega) (cap - kk)
          rw [Nat.zero_add] at this
          rw [← hif, if_neg (by omega)]
          exact this)
        (
          have HL' : Hid ((insK l (k1, k2)).length = kk + 1 + (n - kk) ∧ eK.flat (insK l (k1, k2)) = ([] ++ eK.flat (l.take kk) ++ [.int .i64 k1, .int .i64 k2]) ++ eK.flat (l.drop kk)) := by
            have := HN.out
            rw [insK_at HP.out HNB.out (by omega)]
            refine ⟨by rw [List.length_append, List.length_cons, List.length_take, List.length_drop]; omega, ?_⟩
            rw [flat_app, flat_cons]
            simp [eK]
          refine wp_region_pick_tail (Below wr.heap.size wr) (AS wr 33 2 (.slice none 0 0) 0 [] []) [0, 1, 2, 4, 7, 8, 9] 4 11 (by kernel_rfl) ?_ AS.stable AS.base (AS.start wr 33 2) ?_
          · kernel_rfl
          repeat (apply pRow_plain
                  · exact rfl
                  · exact rfl
                  · intro wg hg
                    ((obtain ⟨u0, u1, -⟩ := (HB.out.keep hg).box.lay2))
                    go_simp
                    first
                      | exact rfl
                      | exact Below.refl _ _
                      | exact ⟨Below.refl _ _, rfl⟩
                      | ((fail))
                  intro K hK
                  go_simp
                  refine hK _ ?_
                  clear hK K)
          refine pRow_nil ?_
          refine lAnyL_step [3, 5] ?_ (by simp) (by decide) ?_
          · kernel_rfl
          intro j hj
          have hj' : j = 3 ∨ j = 5 := by simpa using hj
          rcases hj' with rfl | rfl
          · refine lOp_app elt42 _ _ rfl rfl rfl rfl rfl (fun wg hg => HS1.out.below hg.below) (by omega) ?_
            intro u1
            go_simp
            refine lAnyL_step [5] ?_ (by simp) (by decide) ?_
            · kernel_rfl
            intro j hj
            obtain rfl : j = 5 := by simpa using hj
            refine lOp_build #[.int .i64 k1, .int .i64 k2] rfl rfl (fun w => by go_simp) ?_
            intro bx
            go_simp
            (
              refine lAnyL_step [6] ?_ (by simp) (by decide) ?_
              · kernel_rfl
              intro j hj
              obtain rfl : j = 6 := by simpa using hj
              refine lOp_app elt42 _ _ rfl rfl rfl rfl rfl (fun wg hg => hg.src (c := #[.int .i64 k1, .int .i64 k2]) (by simp) rfl (by intro u hu; simp at hu; rcases hu with rfl | rfl <;> rfl)) (by omega) ?_
              intro u2
              go_simp
              refine lAnyL_step [10] ?_ (by simp) (by decide) ?_
              · kernel_rfl
              intro j hj
              obtain rfl : j = 10 := by simpa using hj
              refine lOp_app elt42 _ _ rfl rfl rfl rfl rfl (fun wg hg => HS2.out.below hg.below) (by omega) ?_
              intro u3
              go_simp
              refine ⟨?_, ?_⟩
              · kernel_rfl
              intro wg hg
              obtain ⟨ua, ucap, rfl⟩ := owns_val hg.row
              have HG := Lib.hid (show Ow eK 33 wr wg (.slice ua (kk + 1 + (n - kk)) ucap) (insK l (k1, k2)) from own_of hg (by rw [HL'.out.1]; try rfl) (by rw [HL'.out.2]; try simp))
              clear hg
              go_wp2_with fail
              go_ret
              have hq := HL'.out.1
              refine ⟨ua, ucap, by rw [hq]; rfl, ?_⟩
              rw [hq]
              exact HG.out.down HB.out.below)
          · refine lOp_build #[.int .i64 k1, .int .i64 k2] rfl rfl (fun w => by go_simp) ?_
            intro bx
            go_simp
            refine lAnyL_step [3] ?_ (by simp) (by decide) ?_
            · kernel_rfl
            intro j hj
            obtain rfl : j = 3 := by simpa using hj
            refine lOp_app elt42 _ _ rfl rfl rfl rfl rfl (fun wg hg => HS1.out.below hg.below) (by omega) ?_
            intro u1
            go_simp
            (
              refine lAnyL_step [6] ?_ (by simp) (by decide) ?_
              · kernel_rfl
              intro j hj
              obtain rfl : j = 6 := by simpa using hj
              refine lOp_app elt42 _ _ rfl rfl rfl rfl rfl (fun wg hg => hg.src (c := #[.int .i64 k1, .int .i64 k2]) (by simp) rfl (by intro u hu; simp at hu; rcases hu with rfl | rfl <;> rfl)) (by omega) ?_
              intro u2
              go_simp
              refine lAnyL_step [10] ?_ (by simp) (by decide) ?_
              · kernel_rfl
              intro j hj
              obtain rfl : j = 10 := by simpa using hj
              refine lOp_app elt42 _ _ rfl rfl rfl rfl rfl (fun wg hg => HS2.out.below hg.below) (by omega) ?_
              intro u3
              go_simp
              refine ⟨?_, ?_⟩
              · kernel_rfl
              intro wg hg
              obtain ⟨ua, ucap, rfl⟩ := owns_val hg.row
              have HG := Lib.hid (show Ow eK 33 wr wg (.slice ua (kk + 1 + (n - kk)) ucap) (insK l (k1, k2)) from own_of hg (by rw [HL'.out.1]; try rfl) (by rw [HL'.out.2]; try simp))
              clear hg
              go_wp2_with fail
              go_ret
              have hq := HL'.out.1
              refine ⟨ua, ucap, by rw [hq]; rfl, ?_⟩
              rw [hq]
              exact HG.out.down HB.out.below))
    · obtain rfl : kk = n := by omega
      have hkf : decide ((kk : Int) < (kk : Int)) = false := by simp
      have HNB : Hid (∀ x, l[kk]? = some x → ltK x (k1, k2) = false) := Lib.hid fun x hx => by
        have h1 := (List.getElem?_eq_some_iff.1 hx).1
        have h2 := HN.out
        omega
      have HDR := Lib.hid (show l.drop kk = [] from List.drop_of_length_le (by have := HN.out; omega))
      go_wp2_with fail
      refine wp_region_grow (Below wr0.heap.size wr0) (by kernel_rfl) (by kernel_rfl) (Below.refl _ _).drew ?_
      repeat first
               | (apply gRow_plain
                  · exact rfl
                  · intro wg hg
                    ((skip))
                    go_simp
                    first
                      | exact rfl
                      | exact hg
                      | exact ⟨hg, rfl⟩
                      | ((fail))
                  intro K hK
                  go_simp
                  refine hK _ ?_
                  clear hK K)
               | (apply gRow_step
                  · go_simp; done
                  · intro wg hg
                    ((skip))
                    go_simp
                    first
                      | exact rfl
                      | exact hg
                      | exact ⟨hg, rfl⟩
                      | ((fail))
                  intro K hK
                  go_simp
                  refine hK _ ?_
                  clear hK K)
               | (apply gRow_not
                  · go_simp; done
                  intro K hK
                  go_simp
                  refine hK _ ?_
                  clear hK K)
      refine gRow_nil ?_
      intro wr hby
      have HB := Lib.hid (HB1.out.keep hby)
      clear hby HB1
      go_wp2_with fail
      have hic : kk ≤ cap := by omega
      have hin2 : kk ≤ kk := by omega
      have hin3 : (kk : Int) ≤ (kk : Int) := by omega
      cases a with
      | none =>
        obtain ⟨e1, e2, -⟩ := HB.out.ow.bare
        subst e1 e2
        have HS1 := Lib.hid (show Src wr (.slice none 0 0) 2 0 (eK.flat (l.take 0)) from src_none _ _)
        have HS2 := Lib.hid (show Src wr (.slice none 0 0) 2 0 (eK.flat (l.drop 0)) by rw [HDR.out]; exact src_none _ _)
        (
          have HL' : Hid ((insK l (k1, k2)).length = 0 + 1 + 0 ∧ eK.flat (insK l (k1, k2)) = ([] ++ eK.flat (l.take 0) ++ [.int .i64 k1, .int .i64 k2]) ++ eK.flat (l.drop 0)) := by
            have := HN.out
            rw [insK_at HP.out HNB.out (by omega)]
            refine ⟨by rw [List.length_append, List.length_cons, List.length_take, List.length_drop]; omega, ?_⟩
            rw [flat_app, flat_cons]
            simp [eK]
          refine wp_region_pick_tail (Below wr.heap.size wr) (AS wr 33 2 (.slice none 0 0) 0 [] []) [0, 1, 2, 4, 7, 8, 9] 4 11 (by kernel_rfl) ?_ AS.stable AS.base (AS.start wr 33 2) ?_
          · kernel_rfl
          repeat (apply pRow_plain
                  · exact rfl
                  · exact rfl
                  · intro wg hg
                    ((obtain ⟨u0, u1, -⟩ := (HB.out.keep hg).box.lay2))
                    go_simp
                    first
                      | exact rfl
                      | exact Below.refl _ _
                      | exact ⟨Below.refl _ _, rfl⟩
                      | ((fail))
                  intro K hK
                  go_simp
                  refine hK _ ?_
                  clear hK K)
          refine pRow_nil ?_
          refine lAnyL_step [3, 5] ?_ (by simp) (by decide) ?_
          · kernel_rfl
          intro j hj
          have hj' : j = 3 ∨ j = 5 := by simpa using hj
          rcases hj' with rfl | rfl
          · refine lOp_app elt42 _ _ rfl rfl rfl rfl rfl (fun wg hg => HS1.out.below hg.below) (by omega) ?_
            intro u1
            go_simp
            refine lAnyL_step [5] ?_ (by simp) (by decide) ?_
            · kernel_rfl
            intro j hj
            obtain rfl : j = 5 := by simpa using hj
            refine lOp_build #[.int .i64 k1, .int .i64 k2] rfl rfl (fun w => by go_simp) ?_
            intro bx
            go_simp
            (
              refine lAnyL_step [6] ?_ (by simp) (by decide) ?_
              · kernel_rfl
              intro j hj
              obtain rfl : j = 6 := by simpa using hj
              refine lOp_app elt42 _ _ rfl rfl rfl rfl rfl (fun wg hg => hg.src (c := #[.int .i64 k1, .int .i64 k2]) (by simp) rfl (by intro u hu; simp at hu; rcases hu with rfl | rfl <;> rfl)) (by omega) ?_
              intro u2
              go_simp
              refine lAnyL_step [10] ?_ (by simp) (by decide) ?_
              · kernel_rfl
              intro j hj
              obtain rfl : j = 10 := by simpa using hj
              refine lOp_app elt42 _ _ rfl rfl rfl rfl rfl (fun wg hg => HS2.out.below hg.below) (by omega) ?_
              intro u3
              go_simp
              refine ⟨?_, ?_⟩
              · kernel_rfl
              intro wg hg
              obtain ⟨ua, ucap, rfl⟩ := owns_val hg.row
              have HG := Lib.hid (show Ow eK 33 wr wg (.slice ua (0 + 1 + 0) ucap) (insK l (k1, k2)) from own_of hg (by rw [HL'.out.1]; try rfl) (by rw [HL'.out.2]; try simp))
              clear hg
              go_wp2_with fail
              go_ret
              have hq := HL'.out.1
              refine ⟨ua, ucap, by rw [hq]; rfl, ?_⟩
              rw [hq]
              exact HG.out.down HB.out.below)
          · refine lOp_build #[.int .i64 k1, .int .i64 k2] rfl rfl (fun w => by go_simp) ?_
            intro bx
            go_simp
            refine lAnyL_step [3] ?_ (by simp) (by decide) ?_
            · kernel_rfl
            intro j hj
            obtain rfl : j = 3 := by simpa using hj
            refine lOp_app elt42 _ _ rfl rfl rfl rfl rfl (fun wg hg => HS1.out.below hg.below) (by omega) ?_
            intro u1
            go_simp
            (
              refine lAnyL_step [6] ?_ (by simp) (by decide) ?_
              · kernel_rfl
              intro j hj
              obtain rfl : j = 6 := by simpa using hj
              refine lOp_app elt42 _ _ rfl rfl rfl rfl rfl (fun wg hg => hg.src (c := #[.int .i64 k1, .int .i64 k2]) (by simp) rfl (by intro u hu; simp at hu; rcases hu with rfl | rfl <;> rfl)) (by omega) ?_
              intro u2
              go_simp
              refine lAnyL_step [10] ?_ (by simp) (by decide) ?_
              · kernel_rfl
              intro j hj
              obtain rfl : j = 10 := by simpa using hj
              refine lOp_app elt42 _ _ rfl rfl rfl rfl rfl (fun wg hg => HS2.out.below hg.below) (by omega) ?_
              intro u3
              go_simp
              refine ⟨?_, ?_⟩
              · kernel_rfl
              intro wg hg
              obtain ⟨ua, ucap, rfl⟩ := owns_val hg.row
              have HG := Lib.hid (show Ow eK 33 wr wg (.slice ua (0 + 1 + 0) ucap) (insK l (k1, k2)) from own_of hg (by rw [HL'.out.1]; try rfl) (by rw [HL'.out.2]; try simp))
              clear hg
              go_wp2_with fail
              go_ret
              have hq := HL'.out.1
              refine ⟨ua, ucap, by rw [hq]; rfl, ?_⟩
              rw [hq]
              exact HG.out.down HB.out.below))
      | some ad =>
        obtain ⟨-, -, e1, e2⟩ := HB.out.ow.cap
        obtain ⟨g, off, sp⟩ := ad
        cases (show sp = none from e1)
        cases (show off = 0 from e2)
        clear e1 e2
        obtain ⟨sa, hif⟩ : ∃ sa, (if cap = kk then some (⟨g, 0, none⟩ : Addr) else some ⟨g, kk * 2, none⟩) = sa := ⟨_, rfl⟩
        have HS1 := Lib.hid (show Src wr (.slice (some ⟨g, 0, none⟩) kk cap) 2 kk (eK.flat (l.take kk)) from (HB.out.ow.rd (by have := HN.out; omega)).head (by have := HN.out; omega) cap)
        have HS2 := Lib.hid (show Src wr (.slice sa 0 (cap - kk)) 2 0 (eK.flat (l.drop kk)) by
          rw [HDR.out]
          exact src_none _ _)
        (
          have HL' : Hid ((insK l (k1, k2)).length = kk + 1 + 0 ∧ eK.flat (insK l (k1, k2)) = ([] ++ eK.flat (l.take kk) ++ [.int .i64 k1, .int .i64 k2]) ++ eK.flat (l.drop kk)) := by
            have := HN.out
            rw [insK_at HP.out HNB.out (by omega)]
            refine ⟨by rw [List.length_append, List.length_cons, List.length_take, List.length_drop]; omega, ?_⟩
            rw [flat_app, flat_cons]
            simp [eK]
          refine wp_region_pick_tail (Below wr.heap.size wr) (AS wr 33 2 (.slice none 0 0) 0 [] []) [0, 1, 2, 4, 7, 8, 9] 4 11 (by kernel_rfl) ?_ AS.stable AS.base (AS.start wr 33 2) ?_
          · kernel_rfl
          repeat (apply pRow_plain
                  · exact rfl
                  · exact rfl
                  · intro wg hg
                    ((obtain ⟨u0, u1, -⟩ := (HB.out.keep hg).box.lay2))
                    go_simp
                    first
                      | exact rfl
                      | exact Below.refl _ _
                      | exact ⟨Below.refl _ _, rfl⟩
                      | ((fail))
                  intro K hK
                  go_simp
                  refine hK _ ?_
                  clear hK K)
          refine pRow_nil ?_
          refine lAnyL_step [3, 5] ?_ (by simp) (by decide) ?_
          · kernel_rfl
          intro j hj
          have hj' : j = 3 ∨ j = 5 := by simpa using hj
          rcases hj' with rfl | rfl
          · refine lOp_app elt42 _ _ rfl rfl rfl rfl rfl (fun wg hg => HS1.out.below hg.below) (by omega) ?_
            intro u1
            go_simp
            refine lAnyL_step [5] ?_ (by simp) (by decide) ?_
            · kernel_rfl
            intro j hj
            obtain rfl : j = 5 := by simpa using hj
            refine lOp_build #[.int .i64 k1, .int .i64 k2] rfl rfl (fun w => by go_simp) ?_
            intro bx
            go_simp
            (
              refine lAnyL_step [6] ?_ (by simp) (by decide) ?_
              · kernel_rfl
              intro j hj
              obtain rfl : j = 6 := by simpa using hj
              refine lOp_app elt42 _ _ rfl rfl rfl rfl rfl (fun wg hg => hg.src (c := #[.int .i64 k1, .int .i64 k2]) (by simp) rfl (by intro u hu; simp at hu; rcases hu with rfl | rfl <;> rfl)) (by omega) ?_
              intro u2
              go_simp
              refine lAnyL_step [10] ?_ (by simp) (by decide) ?_
              · kernel_rfl
              intro j hj
              obtain rfl : j = 10 := by simpa using hj
              refine lOp_app elt42 _ _ rfl rfl rfl rfl rfl (fun wg hg => HS2.out.below hg.below) (by omega) ?_
              intro u3
              go_simp
              refine ⟨?_, ?_⟩
              · kernel_rfl
              intro wg hg
              obtain ⟨ua, ucap, rfl⟩ := owns_val hg.row
              have HG := Lib.hid (show Ow eK 33 wr wg (.slice ua (kk + 1 + 0) ucap) (insK l (k1, k2)) from own_of hg (by rw [HL'.out.1]; try rfl) (by rw [HL'.out.2]; try simp))
              clear hg
              go_wp2_with fail
              go_ret
              have hq := HL'.out.1
              refine ⟨ua, ucap, by rw [hq]; rfl, ?_⟩
              rw [hq]
              exact HG.out.down HB.out.below)
          · refine lOp_build #[.int .i64 k1, .int .i64 k2] rfl rfl (fun w => by go_simp) ?_
            intro bx
            go_simp
            refine lAnyL_step [3] ?_ (by simp) (by decide) ?_
            · kernel_rfl
            intro j hj
            obtain rfl : j = 3 := by simpa using hj
            refine lOp_app elt42 _ _ rfl rfl rfl rfl rfl (fun wg hg => HS1.out.below hg.below) (by omega) ?_
            intro u1
            go_simp
            (
              refine lAnyL_step [6] ?_ (by simp) (by decide) ?_
              · kernel_rfl
              intro j hj
              obtain rfl : j = 6 := by simpa using hj
              refine lOp_app elt42 _ _ rfl rfl rfl rfl rfl (fun wg hg => hg.src (c := #[.int .i64 k1, .int .i64 k2]) (by simp) rfl (by intro u hu; simp at hu; rcases hu with rfl | rfl <;> rfl)) (by omega) ?_
              intro u2
              go_simp
              refine lAnyL_step [10] ?_ (by simp) (by decide) ?_
              · kernel_rfl
              intro j hj
              obtain rfl : j = 10 := by simpa using hj
              refine lOp_app elt42 _ _ rfl rfl rfl rfl rfl (fun wg hg => HS2.out.below hg.below) (by omega) ?_
              intro u3
              go_simp
              refine ⟨?_, ?_⟩
              · kernel_rfl
              intro wg hg
              obtain ⟨ua, ucap, rfl⟩ := owns_val hg.row
              have HG := Lib.hid (show Ow eK 33 wr wg (.slice ua (kk + 1 + 0) ucap) (insK l (k1, k2)) from own_of hg (by rw [HL'.out.1]; try rfl) (by rw [HL'.out.2]; try simp))
              clear hg
              go_wp2_with fail
              go_ret
              have hq := HL'.out.1
              refine ⟨ua, ucap, by rw [hq]; rfl, ?_⟩
              rw [hq]
              exact HG.out.down HB.out.below))
end Go.Proofs.YtgnmolleaengaaaGreat

/- The reference queue's Running and Schedule. -/
namespace Go.Proofs.YtgnmolleaengaaaGreat
open Go Go.RowKit

theorem insK_cons (y : Ky) (l : List Ky) (k : Ky) : insK (y :: l) k = if ltK y k then y :: insK l k else k :: y :: l := by
  unfold insK
  cases h : ltK y k <;> simp [List.takeWhile, List.dropWhile, h]
theorem insK_perm (l : List Ky) (k : Ky) : (insK l k).Perm (k :: l) := by
  unfold insK
  have := List.takeWhile_append_dropWhile (p := fun x => ltK x k) (l := l)
  have h2 : (l.takeWhile (fun x => ltK x k) ++ k :: l.dropWhile (fun x => ltK x k)).Perm (k :: (l.takeWhile (fun x => ltK x k) ++ l.dropWhile (fun x => ltK x k))) := List.perm_middle
  rwa [this] at h2
theorem ltK_asym {x y : Ky} (h : ltK x y = true) : ltK y x = false := by
  unfold ltK at *
  split at h <;> split <;> simp_all <;> omega
theorem ltK_ftrans {x y z : Ky} (h1 : ltK y x = false) (h2 : ltK z y = false) : ltK z x = false := by
  unfold ltK at *
  split at h1 <;> split at h2 <;> split <;> simp_all <;> omega
theorem insK_sorted {l : List Ky} (k : Ky) (h : l.Pairwise (fun x y => ltK y x = false)) : (insK l k).Pairwise (fun x y => ltK y x = false) := by
  induction l with
  | nil => exact List.pairwise_singleton _ _
  | cons y l ih =>
    rw [insK_cons]
    obtain ⟨h1, h2⟩ := List.pairwise_cons.1 h
    cases hy : ltK y k with
    | true =>
      rw [if_pos rfl]
      refine List.pairwise_cons.2 ⟨fun z hz => ?_, ih h2⟩
      rcases List.mem_cons.1 ((insK_perm l k).mem_iff.1 hz) with rfl | hz
      · exact ltK_asym hy
      · exact h1 z hz
    | false =>
      rw [if_neg (by simp)]
      refine List.pairwise_cons.2 ⟨fun z hz => ?_, h⟩
      rcases List.mem_cons.1 hz with rfl | hz
      · exact hy
      · exact ltK_ftrans hy (h1 z hz)

/-- memory that owes nothing to older blocks -/
theorem Ow.zero {α : Type} {E : Enc α} {e : TypeId} {w0 w wb : World} {v : Value} {l : List α} {S : List Nat} (h : Ow E e w0 w v l) (ho : Only S wb w) : Ow E e (cut 0 wb) w v l :=
  ⟨⟨ho.os, ho.tape, ho.output, by rw [cut_size (Nat.zero_le _)]; exact Nat.zero_le _, fun k hk => by rw [cut_size (Nat.zero_le _)] at hk; omega⟩, owns_mono h.row (by rw [cut_size (Nat.zero_le _)]; exact Nat.zero_le _), fun t ht => by cases ht⟩
theorem Ow.mark {α : Type} {E : Enc α} {e : TypeId} {wb w : World} {v : Value} {l : List α} {g : Nat} (h : Ow E e (cut 0 wb) w v l) (hg : TyB w g 107) (he : e ≠ 107) (i : Nat) (u : Value) : Ow E e (cut 0 wb) (w.setCell ⟨g, i, none⟩ u) v l :=
  ⟨h.below.setCell (p := ⟨g, i, none⟩) (by rw [cut_size (Nat.zero_le _)]; exact Nat.zero_le _) u, owns_same h.row fun k hk => Below.heap_setCell _ _ _ _ fun q => by
    have q : k = g := q
    subst q
    exact he ((owns_ty h.row hk).uniq hg), fun t ht => by cases ht⟩

/-- what a loop over the list sees -/
structure Rs (rb n : Nat) (g cap : Nat) (slots : Int) (M : List En) (w wr : World) : Prop where
  at_ : RAt rb g cap slots M n wr
  below : Below w.heap.size w wr
theorem Rs.keep {rb n g cap : Nat} {slots : Int} {M : List En} {w wr wx : World} (h : Rs rb n g cap slots M w wr) (hb : Below wr.heap.size wr wx) : Rs rb n g cap slots M w wx := ⟨h.at_.keep hb, h.below.trans (hb.mono h.below.size)⟩

set_option maxRecDepth 20000 in
set_option maxHeartbeats 4000000 in
theorem rrunning_as {rb : Nat} {slots : Int} {M : List En} {w : World} (h : Rq rb slots M w) (hl : M.length ≤ 1000) : Calls Tryz.prog 44 #[.pointer (some ⟨rb, 0, none⟩)] w (KeysPost w (keysP En.run M)) := by
  obtain ⟨a, cap, c1, hrd⟩ := h.list (by omega)
  obtain ⟨n, hn⟩ : ∃ n, M.length = n := ⟨_, rfl⟩
  have HN := Lib.hid hn
  rw [hn] at hl hrd c1
  have HR := Lib.hid hrd
  have C1 := Lib.hid c1
  have HLT := Lib.hid h.ty.lt
  have hc := hrd.caps
  have hc1 := hc.1
  have hc2 := hc.2.1
  clear h hn hrd hc
  go_enter Tryz.func44, Tryz.ntmps44
  go_wp2_with fail
  clear c1
  go_loopw [3, 4] (fun x y wr => ∃ (k : Nat) (p : Option Addr) (N c : Nat) (K : List Ky), k ≤ n ∧ y = .int .i64 k ∧ x = .slice p N c ∧ Hid (K.length = N) ∧ Hid (K.Perm (rawK M k)) ∧ Hid (K.Pairwise (fun x y => ltK y x = false)) ∧ Hid (Ow eK 33 w wr (.slice p N c) K)) (fun _ y _ => n - (intOf y).toNat)
  case atStart => exact ⟨0, none, 0, 0, [], by omega, rfl, rfl, Lib.hid rfl, Lib.hid (List.Perm.refl _), Lib.hid List.Pairwise.nil, Lib.hid (Ow.start 33 w)⟩
  case round =>
    rename World => wr
    obtain ⟨k, p, N, c, K, hk, rfl, rfl, HKN, HKP, HKS, HO⟩ := hrel
    have c1 := (HO.out.below.cell (p := ⟨rb, 1, none⟩) HLT.out).trans C1.out
    by_cases hkn : k < n
    · obtain ⟨x, hx⟩ : ∃ x, M[k]? = some x := ⟨M[k]'(by have := HN.out; omega), by simp⟩
      obtain ⟨g, off, rfl, hg, hcell⟩ := HR.out.entry hx
      obtain ⟨b0, b1, b2, b3, b4, b5, b6, b7, b8⟩ := hcell _ HO.out.below
      have HL := Lib.hid (show N ≤ 1000 by
        have e1 := HKP.out.length_eq
        have e2 := rawK_len M k
        have e3 := HKN.out
        omega)
      have HS := Lib.hid (rawK_succ hx)
      have hib : (k : Int) < (n : Int) := by omega
      clear hx hcell hg
      cases hrun : x.run with
      | true =>
        rw [hrun] at HS b7
        obtain ⟨⟨a1, a2, a3, a4, n1, d1⟩, na, nc, da, dc, ru, se⟩ := x
        obtain rfl : ru = true := hrun
        have HS2 := Lib.hid (show (insK K (a1, a2)).Perm (rawK M (k + 1)) by
          rw [HS.out, if_pos rfl]
          exact ((insK_perm K (a1, a2)).trans (List.Perm.cons _ HKP.out)).trans (List.perm_append_comm (l₁ := [(a1, a2)]) (l₂ := rawK M k)))
        clear HS
        go_wp2_with (first
          | (go_at_call 10; (with_reducible refine (rkey_as ⟨a1, a2, a3, a4, n1, d1⟩ _ _ _ _ _ _ _).mono ?_); rintro e w2 ⟨rfl, hb⟩; have HO2 := Lib.hid (HO.out.grow hb); clear hb)
          | (go_at_call 68; (with_reducible refine (rput_as HO2.out HL.out (a1, a2)).mono ?_); rintro e w3 ⟨p3, c3, rfl, ho⟩; have HO3 := Lib.hid (ho.down HO2.out.below); clear ho))
        go_roundw
        case rel => exact ⟨k + 1, p3, _, c3, insK K (a1, a2), by omega, by go_num, rfl, Lib.hid rfl, HS2, Lib.hid (insK_sorted _ HKS.out), HO3⟩
        case measure => simp [intOf]; omega
      | false =>
        rw [hrun] at HS b7
        have HS2 := Lib.hid (show K.Perm (rawK M (k + 1)) by rw [HS.out, if_neg (by simp)]; exact HKP.out)
        obtain ⟨⟨a1, a2, a3, a4, n1, d1⟩, na, nc, da, dc, ru, se⟩ := x
        obtain rfl : ru = false := hrun
        clear HS
        go_wp2_with fail
        go_roundw
        case rel => exact ⟨k + 1, p, N, c, K, by omega, by go_num, rfl, HKN, HS2, HKS, HO⟩
        case measure => simp [intOf]; omega
    · obtain rfl : k = n := by omega
      have HF := Lib.hid (show rawK M k = keysP En.run M by unfold rawK; rw [← HN.out, List.take_length])
      have hnn := HKN.out
      subst hnn
      go_wp2_with fail
      go_ret
      exact ⟨p, c, K, rfl, by rw [← HF.out]; exact HKP.out, HKS.out, Rt.of_ow HO.out (by
        have e1 := HKP.out.length_eq
        have e2 := rawK_len M k
        omega), HO.out.below⟩
end Go.Proofs.YtgnmolleaengaaaGreat

/- The reference queue's Schedule. -/
namespace Go.Proofs.YtgnmolleaengaaaGreat
open Go Go.RowKit

def RSchedPost (rb : Nat) (slots : Int) (M : List En) (w : World) (e : Ending) (w' : World) : Prop :=
  ∃ a S' c a2 P' c2, e = .returned (.tuple #[.slice a S'.length c, .slice a2 P'.length c2]) ∧ (S'.Perm (schS (slotsL slots M) M) ∧ S'.Pairwise (fun x y => ltK y x = false)) ∧ (P'.Perm (schP (slotsL slots M) M) ∧ P'.Pairwise (fun x y => ltK y x = false)) ∧
    Rt eK 33 w' (.slice a S'.length c) S' ∧ Rt eK 33 w' (.slice a2 P'.length c2) P' ∧ Rq rb slots (schL (slotsL slots M) M) w' ∧ Only [rb] w w'

/-- the state of the second loop -/
structure Sr (rb : Nat) (slots c0 : Int) (M : List En) (w wr : World) (i : Nat) (v1 v2 : Value) (S P : List Ky) : Prop where
  q : Rq rb slots (schL c0 (M.take i) ++ M.drop i) wr
  new_ : ∀ v, wr.cell? ⟨rb, 1, none⟩ = some v → ∀ k, v.ownBlock = some k → w.heap.size ≤ k
  on : Only [rb] w wr
  s1 : S.Perm (schS c0 (M.take i))
  s2 : S.Pairwise (fun x y => ltK y x = false)
  p1 : P.Perm (schP c0 (M.take i))
  p2 : P.Pairwise (fun x y => ltK y x = false)
  o1 : Ow eK 33 (cut 0 w) wr v1 S
  o2 : Ow eK 33 (cut 0 w) wr v2 P
/-- the row of the state -/
structure Sa (rb g cap : Nat) (slots c0 : Int) (M : List En) (n : Nat) (w wr : World) (i : Nat) : Prop where
  at_ : RAt rb g cap slots (schL c0 (M.take i) ++ M.drop i) n wr
  new_ : w.heap.size ≤ g
  on : Only [rb] w wr
theorem Sa.keep {rb g cap n : Nat} {slots c0 : Int} {M : List En} {w wr wx : World} {i : Nat} (h : Sa rb g cap slots c0 M n w wr i) (hb : Below wr.heap.size wr wx) : Sa rb g cap slots c0 M n w wx i :=
  ⟨h.at_.keep hb, h.new_, h.on.trans (Only.of_below [rb] hb)⟩
theorem Sr.row {rb n : Nat} {slots c0 : Int} {M : List En} {w wr : World} {i : Nat} {v1 v2 : Value} {S P : List Ky} (h : Sr rb slots c0 M w wr i v1 v2 S P) (hn : M.length = n) (h0 : 0 < n) : ∃ g cap, Sa rb g cap slots c0 M n w wr i := by
  obtain ⟨g, cap, ha⟩ := h.q.at (sch_len hn c0 i) h0
  exact ⟨g, cap, ha, h.new_ _ ha.c1 g rfl, h.on⟩
theorem Sr.next {rb g cap n : Nat} {slots c0 : Int} {M : List En} {w W : World} {i : Nat} {v1 v2 : Value} {S P : List Ky} {x : En} {r : Bool} (h : Sa rb g cap slots c0 M n w W i) (hx : M[i]? = some x) (hr : runOf (cntL c0 (M.take i)) x = r)
    (hS : S.Perm (schS c0 (M.take i) ++ (if r && !x.run then [x.key] else []))) (hS2 : S.Pairwise (fun x y => ltK y x = false)) (hP : P.Perm (schP c0 (M.take i) ++ (if !r && x.run then [x.key] else []))) (hP2 : P.Pairwise (fun x y => ltK y x = false))
    (o1 : Ow eK 33 (cut 0 w) W v1 S) (o2 : Ow eK 33 (cut 0 w) W v2 P) : Sr rb slots c0 M w (W.setCell ⟨g, i * 9 + 7, none⟩ (.bool r)) (i + 1) v1 v2 S P := by
  subst hr
  obtain ⟨r1, r2⟩ := row_step hx (c := c0) rfl
  have hset := h.at_.setRun (b := runOf (cntL c0 (M.take i)) x) r1
  have hq := hset.q
  rw [r2] at hq
  refine ⟨hq, fun v hv k hk => ?_, h.on.setCell (.inr h.new_) _ _, ?_, hS2, ?_, hP2, o1.mark h.at_.ty (by decide) _ _, o2.mark h.at_.ty (by decide) _ _⟩
  · rw [hset.c1] at hv
    cases hv
    cases hk
    exact h.new_
  · rw [take_snoc hx, schS_snoc]; exact hS
  · rw [take_snoc hx, schP_snoc]; exact hP
/-- a sealed entry goes on -/
theorem Sr.skip {rb : Nat} {slots c0 : Int} {M : List En} {w wr : World} {i : Nat} {v1 v2 : Value} {S P : List Ky} {x : En} (h : Sr rb slots c0 M w wr i v1 v2 S P) (hx : M[i]? = some x) (hh : x.held = true) (hr : x.run = true) : Sr rb slots c0 M w wr (i + 1) v1 v2 S P := by
  have hro : runOf (cntL c0 (M.take i)) x = true := by simp [runOf, hh]
  obtain ⟨r1, r2⟩ := row_step hx (c := c0) hro
  have e : setRun true x = x := by obtain ⟨j, na, nc, da, dc, ru, se⟩ := x; cases hr; rfl
  rw [e] at r2
  have e2 : (schL c0 (M.take i) ++ M.drop i).set i x = schL c0 (M.take i) ++ M.drop i := by
    apply List.ext_getElem?
    intro j
    by_cases hj : j = i
    · subst hj
      rw [List.getElem?_set_self (List.getElem?_eq_some_iff.1 r1).1, r1]
    · rw [List.getElem?_set_ne (fun e => hj e.symm)]
  rw [e2] at r2
  refine ⟨by rw [← r2]; exact h.q, h.new_, h.on, ?_, h.s2, ?_, h.p2, h.o1, h.o2⟩
  · rw [take_snoc hx, schS_snoc, hro]; simp [hr]; exact h.s1
  · rw [take_snoc hx, schP_snoc, hro]; simp; exact h.p1
/-- the two counters -/
def CR (c cp : Int) : Prop := (0 < c → cp = c) ∧ (c ≤ 0 → cp ≤ 0)
theorem CR.dec {c cp : Int} {x : En} (h : CR c cp) (hh : x.held = false) : CR (c - 1) (cnt cp x) := by
  unfold CR cnt at *
  simp [hh]
  by_cases hp : 0 < c
  · rw [h.1 hp, if_pos hp]; omega
  · have := h.2 (by omega)
    rw [if_neg (by omega)]; omega
theorem CR.same {c cp : Int} {x : En} (h : CR c cp) (hh : x.held = true) : CR c (cnt cp x) := by
  unfold cnt; rw [if_pos hh]; exact h
theorem CR.run {c cp : Int} {x : En} (h : CR c cp) (hh : x.held = false) : runOf cp x = decide (0 < c) := by
  unfold CR at h
  unfold runOf
  rw [hh, Bool.false_or]
  by_cases hp : 0 < c
  · rw [h.1 hp]
  · have := h.2 (by omega)
    rw [decide_eq_false hp, decide_eq_false (by omega)]




set_option maxRecDepth 20000 in
set_option maxHeartbeats 4000000 in
theorem rschedule_as {rb : Nat} {slots : Int} {M : List En} {w : World} (h : Rq rb slots M w) (hl : M.length ≤ 1000) (h1 : 0 ≤ slots) (h2 : slots ≤ 48) (hh : ∀ x ∈ M, x.held = true → x.run = true) : Calls Tryz.prog 41 #[.pointer (some ⟨rb, 0, none⟩)] w (RSchedPost rb slots M w) := by
  obtain ⟨n, hn⟩ : ∃ n, M.length = n := ⟨_, rfl⟩
  have HN := Lib.hid hn
  obtain ⟨a, cap, c1, hrd⟩ := h.list (by omega)
  rw [hn] at hl hrd c1
  have HR := Lib.hid hrd
  have HQ := Lib.hid h
  have HHR := Lib.hid hh
  have C1 := Lib.hid c1
  have c0 := h.c0
  have HQL := Lib.hid h.ty.lt
  have hc := hrd.caps
  have hq1 := hc.1
  have hq2 := hc.2.1
  clear h hn hrd hh hc
  go_enter Tryz.func41, Tryz.ntmps41
  go_wp2_with fail
  clear c0 c1
  go_loopw [4, 5] (fun x y wr => ∃ (k : Nat) (c : Int), k ≤ n ∧ y = .int .i64 k ∧ x = .int .i64 c ∧ -(k : Int) ≤ c ∧ c ≤ 48 ∧ Hid (c = slots - heldK M k) ∧ Hid (Below w.heap.size w wr)) (fun _ y _ => n - (intOf y).toNat)
  case atStart => exact ⟨0, slots, by omega, rfl, rfl, by omega, h2, Lib.hid (by simp [heldK]), Lib.hid (Below.refl _ _)⟩
  case round =>
    rename World => wr
    obtain ⟨k, c, hk, rfl, rfl, hc1, hc2, HC, HB⟩ := hrel
    have c1 := (HB.out.cell (p := ⟨rb, 1, none⟩) HQL.out).trans C1.out
    by_cases hkn : k < n
    · obtain ⟨x, hx⟩ : ∃ x, M[k]? = some x := ⟨M[k]'(by have := HN.out; omega), by simp⟩
      obtain ⟨g, off, rfl, hg, hcell⟩ := HR.out.entry hx
      obtain ⟨b0, b1, b2, b3, b4, b5, b6, b7, b8⟩ := hcell _ HB.out
      have HS := Lib.hid (heldK_succ hx)
      have hib : (k : Int) < (n : Int) := by omega
      clear hx hcell hg
      cases hh : x.held with
      | true =>
        rw [hh] at HS b8
        have HC2 := Lib.hid (show c - 1 = slots - heldK M (k + 1) by rw [HS.out, HC.out]; simp; omega)
        obtain ⟨⟨a1, a2, a3, a4, n1, d1⟩, na, nc, da, dc, ru, se⟩ := x
        obtain rfl : se = true := hh
        clear HS
        go_wp2_with fail
        go_roundw
        case rel => exact ⟨k + 1, c - 1, by omega, by go_num, rfl, by omega, by omega, HC2, HB⟩
        case measure => simp [intOf]; omega
      | false =>
        rw [hh] at HS b8
        have HC2 := Lib.hid (show c = slots - heldK M (k + 1) by rw [HS.out, HC.out]; simp)
        obtain ⟨⟨a1, a2, a3, a4, n1, d1⟩, na, nc, da, dc, ru, se⟩ := x
        obtain rfl : se = false := hh
        clear HS
        go_wp2_with fail
        go_roundw
        case rel => exact ⟨k + 1, c, by omega, by go_num, rfl, by omega, by omega, HC2, HB⟩
        case measure => simp [intOf]; omega
    · obtain rfl : k = n := by omega
      have HQ1 := Lib.hid (HQ.out.keep HB.out)
      have HRD := Lib.hid (HR.out.keep HB.out)
      have HC3 := Lib.hid (show c = slotsL slots M by rw [HC.out, heldK, ← HN.out, List.take_length]; rfl)
      have e1 := HQ1.out.thaw 1
      clear HC HQ HR hc1
      have hc3 : -1000 ≤ c := by
        have := HC3.out
        unfold slotsL at this
        have h3 := List.length_filter_le En.held M
        have h4 := HN.out
        omega
      obtain ⟨c0, hc0⟩ : ∃ c0, slotsL slots M = c0 := ⟨_, rfl⟩
      rw [hc0] at HC3
      have HCC := Lib.hid hc0
      clear hc0
      go_wp2_with (at_builtin; refine wpList_more elt69 (E := eE) _ _ rfl rfl rfl rfl (Ow.start 107 wr) HRD.out (by have := HN.out; simp; omega) ?_; intro pp cp w2 HO HG; rw [show ([] : List En).length + M.length = k by simp [HN.out]] at HO HG ⊢; rw [List.nil_append] at HO; have d1 := (HO.out.below.cell (p := ⟨rb, 1, none⟩) HQ1.out.ty.lt).trans c1; have f1 := (HO.out.below.frozen (p := ⟨rb, 1, none⟩) HQ1.out.ty.lt).trans e1)
      have HPU := Lib.hid (HQ1.out.put HO.out HQ1.out.frac HQ1.out.ok)
      have HSR := Lib.hid (show Sr rb slots c0 M w (w2.setCell ⟨rb, 1, none⟩ (.slice pp k cp)) 0 (.slice none 0 0) (.slice none 0 0) [] [] from
        ⟨by show Rq rb slots ([] ++ M.drop 0) _
            rw [List.nil_append, List.drop_zero]
            exact HPU.out.1,
          fun v hv q hq => by
            rw [World.cell?_setCell_same _ _ _ d1] at hv
            cases hv
            exact Nat.le_trans HB.out.size (HO.out.row.lt q hq).1,
          (Only.of_below [rb] HB.out).trans HPU.out.2, List.Perm.refl _, List.Pairwise.nil, List.Perm.refl _, List.Pairwise.nil,
          (Ow.start 33 _).zero ((Only.of_below [rb] HB.out).trans HPU.out.2), (Ow.start 33 _).zero ((Only.of_below [rb] HB.out).trans HPU.out.2)⟩)
      have HCR := Lib.hid (show CR c (cntL c0 (M.take 0)) by rw [HC3.out]; exact ⟨fun _ => rfl, fun h => h⟩)
      clear c1 d1 e1 f1 HG HO HPU HRD HB HC3
      go_wp2_with fail
      go_loopw [4, 6, 7, 8] (fun x y z u wr => ∃ (i : Nat) (c : Int) (p1 p2 : Option Addr) (N1 N2 q1 q2 : Nat) (S P : List Ky), i ≤ k ∧ u = .int .i64 i ∧ x = .int .i64 c ∧ y = .slice p1 N1 q1 ∧ z = .slice p2 N2 q2 ∧ -(1000 + (i : Int)) ≤ c ∧ c ≤ 48 ∧ Hid (S.length = N1) ∧ Hid (P.length = N2) ∧ Hid (CR c (cntL c0 (M.take i))) ∧ Hid (Sr rb slots c0 M w wr i (.slice p1 N1 q1) (.slice p2 N2 q2) S P)) (fun _ _ _ u _ => k - (intOf u).toNat)
      case atStart => exact ⟨0, c, none, none, 0, 0, 0, 0, [], [], by omega, rfl, rfl, rfl, rfl, by omega, hc2, Lib.hid rfl, Lib.hid rfl, HCR, HSR⟩
      case round =>
        clear HSR HCR hc3 hc2 HQ1
        obtain ⟨i, c, p1, p2, N1, N2, q1, q2, S, P, hi, rfl, rfl, rfl, rfl, hc1, hc2, HN1, HN2, HCR, HSC⟩ := hrel
        rename World => wr
        by_cases hik : i < k
        · obtain ⟨x, hx⟩ : ∃ x, M[i]? = some x := ⟨M[i]'(by have := HN.out; omega), by simp⟩
          have hrow := (row_step hx (c := c0) rfl).1
          have HXX := Lib.hid hrow
          have HX := Lib.hid hx
          obtain ⟨g, cap2, hsa⟩ := HSC.out.row HN.out (by omega)
          have HA := Lib.hid hsa
          have O1 := Lib.hid HSC.out.o1
          have O2 := Lib.hid HSC.out.o2
          have HL1 := Lib.hid (show N1 ≤ 1000 by have e1 := HSC.out.s1.length_eq; have := schS_len (M.take i) c0; rw [List.length_take] at this; have := HN1.out; omega)
          have HL2 := Lib.hid (show N2 ≤ 1000 by have e1 := HSC.out.p1.length_eq; have := schP_len (M.take i) c0; rw [List.length_take] at this; have := HN2.out; omega)
          have cl := hsa.at_.caps
          have cl1 := cl.1
          have cl2 := cl.2
          have cc1 := hsa.at_.c1
          obtain ⟨b0, b1, b2, b3, b4, b5, b6, b7, b8⟩ := hsa.at_.entry hrow
          have bf := hsa.at_.cold (i * 9 + 7)
          have hib : (i : Int) < (k : Int) := by omega
          have hrh := HHR.out x (List.mem_of_getElem? hx)
          clear hrow hsa cl
          cases hh : x.held with
          | true =>
            have HCN := Lib.hid (show CR c (cntL c0 (M.take (i + 1))) by rw [take_snoc hx, cntL_snoc]; exact HCR.out.same hh)
            have HSK := Lib.hid (HSC.out.skip hx hh (hrh hh))
            rw [hh] at b8
            obtain ⟨⟨a1, a2, a3, a4, n1, d1⟩, na, nc, da, dc, ru, se⟩ := x
            clear hh hx hrh
            go_wp2_with fail
            go_roundw
            case rel => exact ⟨i + 1, c, p1, p2, N1, N2, q1, q2, S, P, by omega, by go_num, rfl, rfl, rfl, by omega, by omega, HN1, HN2, HCN, HSK⟩
            case measure => simp [intOf]; omega
          | false =>
            have HCN := Lib.hid (show CR (c - 1) (cntL c0 (M.take (i + 1))) by rw [take_snoc hx, cntL_snoc]; exact HCR.out.dec hh)
            have hro := HCR.out.run hh
            rw [hh] at b8
            have hcw : IntKind.i64.wrap (c - 1) = c - 1 := IntWalk.i64_in _ (by omega)
            clear hx hrh
            by_cases hc : 0 < c
            · have hd : decide (0 < c) = true := by simpa using hc
              have HRO := Lib.hid (hro.trans hd)
              clear hro hc
              cases hr : x.run with
              | true =>
                have HS := Lib.hid (show (if true && !x.run then [x.key] else []) = [] by simp [hr])
                have HP := Lib.hid (show (if !true && x.run then [x.key] else []) = [] by simp [hr])
                rw [hr] at b7
                obtain ⟨⟨a1, a2, a3, a4, n1, d1⟩, na, nc, da, dc, ru, se⟩ := x
                clear hh hr
                go_wp2_with fail
                go_roundw
                case rel => exact ⟨i + 1, c - 1, p1, p2, N1, N2, q1, q2, S, P, by omega, by go_num, rfl, rfl, rfl, by omega, by omega, HN1, HN2, HCN, Lib.hid (Sr.next HA.out HX.out HRO.out (by rw [HS.out, List.append_nil]; exact HSC.out.s1) HSC.out.s2 (by rw [HP.out, List.append_nil]; exact HSC.out.p1) HSC.out.p2 O1.out O2.out)⟩
                case measure => simp [intOf]; omega
              | false =>
                have HS := Lib.hid (show (if true && !x.run then [x.key] else []) = [x.key] by simp [hr])
                have HP := Lib.hid (show (if !true && x.run then [x.key] else []) = [] by simp [hr])
                rw [hr] at b7
                obtain ⟨⟨a1, a2, a3, a4, n1, d1⟩, na, nc, da, dc, ru, se⟩ := x
                clear hh hr
                go_wp2_with (first | (
                                       go_at_call 10
                                       (with_reducible refine (rkey_as ⟨a1, a2, a3, a4, n1, d1⟩ _ _ _ _ _ _ _).mono ?_)
                                       rintro e w2 ⟨rfl, hb⟩
                                       have HA2 := Lib.hid (HA.out.keep hb)
                                       have O12 := Lib.hid (O1.out.grow hb)
                                       have O22 := Lib.hid (O2.out.grow hb)
                                       clear hb) | (
                                                     go_at_call 68
                                                     (with_reducible refine (rput_as O12.out (by have := HL1.out; omega) (a1, a2)).mono ?_)
                                                     rintro e w3 ⟨p3, c3, rfl, ho⟩
                                                     have HA3 := Lib.hid (HA2.out.keep ho.below)
                                                     have O13 := Lib.hid (ho.zero HA3.out.on)
                                                     have O23 := Lib.hid (O22.out.grow ho.below)
                                                     have cc1' := HA3.out.at_.c1
                                                     obtain ⟨e0, e1, e2, e3, e4, e5, e6, e7, e8⟩ := HA3.out.at_.entry HXX.out
                                                     have ef := HA3.out.at_.cold (i * 9 + 7)
                                                     clear ho))
                go_roundw
                case rel => exact ⟨i + 1, c - 1, p3, p2, _, N2, c3, q2, insK S (a1, a2), P, by omega, by go_num, rfl, rfl, rfl, by omega, by omega, Lib.hid rfl, HN2, HCN, Lib.hid (Sr.next HA3.out HX.out HRO.out (by rw [HS.out]; exact ((insK_perm _ _).trans (List.Perm.cons _ HSC.out.s1)).trans (List.perm_append_comm (l₁ := [(a1, a2)]))) (insK_sorted _ HSC.out.s2) (by rw [HP.out, List.append_nil]; exact HSC.out.p1) HSC.out.p2 O13.out O23.out)⟩
                case measure => simp [intOf]; omega
            · have hd : decide (0 < c) = false := by simpa using hc
              have HRO := Lib.hid (hro.trans hd)
              clear hro hc
              cases hr : x.run with
              | true =>
                have HS := Lib.hid (show (if false && !x.run then [x.key] else []) = [] by simp [hr])
                have HP := Lib.hid (show (if !false && x.run then [x.key] else []) = [x.key] by simp [hr])
                rw [hr] at b7
                obtain ⟨⟨a1, a2, a3, a4, n1, d1⟩, na, nc, da, dc, ru, se⟩ := x
                clear hh hr
                go_wp2_with (first | (
                                       go_at_call 10
                                       (with_reducible refine (rkey_as ⟨a1, a2, a3, a4, n1, d1⟩ _ _ _ _ _ _ _).mono ?_)
                                       rintro e w2 ⟨rfl, hb⟩
                                       have HA2 := Lib.hid (HA.out.keep hb)
                                       have O12 := Lib.hid (O1.out.grow hb)
                                       have O22 := Lib.hid (O2.out.grow hb)
                                       clear hb) | (
                                                     go_at_call 68
                                                     (with_reducible refine (rput_as O22.out (by have := HL2.out; omega) (a1, a2)).mono ?_)
                                                     rintro e w3 ⟨p3, c3, rfl, ho⟩
                                                     have HA3 := Lib.hid (HA2.out.keep ho.below)
                                                     have O23 := Lib.hid (ho.zero HA3.out.on)
                                                     have O13 := Lib.hid (O12.out.grow ho.below)
                                                     have cc1' := HA3.out.at_.c1
                                                     obtain ⟨e0, e1, e2, e3, e4, e5, e6, e7, e8⟩ := HA3.out.at_.entry HXX.out
                                                     have ef := HA3.out.at_.cold (i * 9 + 7)
                                                     clear ho))
                go_roundw
                case rel => exact ⟨i + 1, c - 1, p1, p3, N1, _, q1, c3, S, insK P (a1, a2), by omega, by go_num, rfl, rfl, rfl, by omega, by omega, HN1, Lib.hid rfl, HCN, Lib.hid (Sr.next HA3.out HX.out HRO.out (by rw [HS.out, List.append_nil]; exact HSC.out.s1) HSC.out.s2 (by rw [HP.out]; exact ((insK_perm _ _).trans (List.Perm.cons _ HSC.out.p1)).trans (List.perm_append_comm (l₁ := [(a1, a2)]))) (insK_sorted _ HSC.out.p2) O13.out O23.out)⟩
                case measure => simp [intOf]; omega
              | false =>
                have HS := Lib.hid (show (if false && !x.run then [x.key] else []) = [] by simp [hr])
                have HP := Lib.hid (show (if !false && x.run then [x.key] else []) = [] by simp [hr])
                rw [hr] at b7
                obtain ⟨⟨a1, a2, a3, a4, n1, d1⟩, na, nc, da, dc, ru, se⟩ := x
                clear hh hr
                go_wp2_with fail
                go_roundw
                case rel => exact ⟨i + 1, c - 1, p1, p2, N1, N2, q1, q2, S, P, by omega, by go_num, rfl, rfl, rfl, by omega, by omega, HN1, HN2, HCN, Lib.hid (Sr.next HA.out HX.out HRO.out (by rw [HS.out, List.append_nil]; exact HSC.out.s1) HSC.out.s2 (by rw [HP.out, List.append_nil]; exact HSC.out.p1) HSC.out.p2 O1.out O2.out)⟩
                case measure => simp [intOf]; omega
        · obtain rfl : i = k := by omega
          have hnn1 := HN1.out
          have hnn2 := HN2.out
          subst hnn1 hnn2
          have cf := HSC.out.q.list (by rw [sch_len HN.out]; omega)
          obtain ⟨af, capf, cf1, -⟩ := cf
          rw [sch_len HN.out] at cf1
          have hkf : decide ((i : Int) < (i : Int)) = false := by simp
          go_wp2_with fail
          go_ret2
          have e1 : M.take i = M := by rw [← HN.out, List.take_length]
          have e2 : M.drop i = [] := by rw [← HN.out, List.drop_length]
          have hs := HSC.out
          obtain ⟨hq, -, hon, hs1, hs2, hp1, hp2, ho1, ho2⟩ := hs
          rw [e1] at hq hs1 hp1
          rw [e2, List.append_nil] at hq
          have hl1 := schS_len M c0
          have hl2 := schP_len M c0
          have hsl := hs1.length_eq
          have hpl := hp1.length_eq
          have hmn := HN.out
          have hcc := HCC.out
          subst hcc
          exact ⟨p1, S, q1, p2, P, q2, rfl, ⟨hs1, hs2⟩, ⟨hp1, hp2⟩, Rt.of_ow ho1 (by omega), Rt.of_ow ho2 (by omega), hq, hon⟩
end Go.Proofs.YtgnmolleaengaaaGreat

/- The reference queue's Jobs; jobs inserted by Before. -/
namespace Go.Proofs.YtgnmolleaengaaaGreat
open Go Go.RowKit

set_option maxRecDepth 20000 in
set_option maxHeartbeats 4000000 in
theorem rjobs_as {rb : Nat} {slots : Int} {M : List En} {w : World} (h : Rq rb slots M w) (hl : M.length ≤ 1000) : Calls Tryz.prog 43 #[.pointer (some ⟨rb, 0, none⟩)] w (JobsPost w M) := by
  obtain ⟨a, cap, c1, hrd⟩ := h.list (by omega)
  obtain ⟨n, hn⟩ : ∃ n, M.length = n := ⟨_, rfl⟩
  have HN := Lib.hid hn
  unfold JobsPost
  rw [hn] at hl hrd c1 ⊢
  have HR := Lib.hid hrd
  have HF := Lib.hid h.frac
  have C1 := Lib.hid c1
  have HLT := Lib.hid h.ty.lt
  have hc := hrd.caps
  have hc1 := hc.1
  have hc2 := hc.2.1
  clear h hn hrd hc
  go_enter Tryz.func43, Tryz.ntmps43
  go_wp2_with fail
  clear c1
  go_loopw [3, 4] (fun x y wr => ∃ (k : Nat) (p : Option Addr) (c : Nat), k ≤ n ∧ y = .int .i64 k ∧ x = .slice p k c ∧ Hid ((M.take k).length = k) ∧ Hid (Ow eJ 29 w wr (.slice p k c) (M.take k))) (fun _ y _ => n - (intOf y).toNat)
  case atStart => exact ⟨0, none, 0, by omega, rfl, rfl, Lib.hid rfl, Lib.hid (Ow.start 29 w)⟩
  case round =>
    rename World => wr
    obtain ⟨k, p, c, hk, rfl, rfl, HML, HO⟩ := hrel
    have c1 := (HO.out.below.cell (p := ⟨rb, 1, none⟩) HLT.out).trans C1.out
    by_cases hkn : k < n
    · obtain ⟨x, hx⟩ : ∃ x, M[k]? = some x := ⟨M[k]'(by have := HN.out; omega), by simp⟩
      obtain ⟨g, off, rfl, hg, hcell⟩ := HR.out.entry hx
      obtain ⟨b0, b1, b2, b3, b4, b5, b6, b7, b8⟩ := hcell _ HO.out.below
      have hib : (k : Int) < (n : Int) := by omega
      have HTS := Lib.hid (take_snoc hx)
      clear hx hcell hg
      obtain ⟨⟨a1, a2, a3, a4, n1, d1⟩, na, nc, da, dc, ru, se⟩ := x
      go_wp2_with (at_builtin; refine wpList_push elt46 (E := eJ) (x := ⟨⟨a1, a2, a3, a4, n1, d1⟩, na, nc, da, dc, ru, se⟩) _ _ rfl rfl rfl rfl rfl HO.out (by have := HML.out; omega) ?_; intro p3 c3 w3 HO3 HG3; rw [HML.out] at HO3 HG3 ⊢)
      go_roundw
      case rel => exact ⟨k + 1, p3, c3, by omega, by go_num, rfl, Lib.hid (by rw [HTS.out, List.length_append, HML.out]; rfl), Lib.hid (by rw [HTS.out]; exact HO3.out)⟩
      case measure => simp [intOf]; omega
    · obtain rfl : k = n := by omega
      go_wp2_with fail
      go_ret
      have hrd := Rt.of_ow HO.out (by have := HML.out; omega)
      rw [← HN.out, List.take_length] at hrd
      exact ⟨p, c, M, rfl, by rw [HN.out] at hrd; exact hrd, ⟨rfl, fun x hx => ⟨(HF.out x hx).1.keep HO.out.below, (HF.out x hx).2.keep HO.out.below⟩⟩, HO.out.below⟩

/-- an entry inserted by Before -/
def insM (M : List En) (y : En) : List En := M.takeWhile (fun x => beforeF x.j y.j) ++ y :: M.dropWhile (fun x => beforeF x.j y.j)
theorem insM_at {M : List En} {y : En} {i : Nat} (h1 : ∀ (j : Nat) (x : En), j < i → M[j]? = some x → beforeF x.j y.j = true) (h2 : ∀ x, M[i]? = some x → beforeF x.j y.j = false) (hi : i ≤ M.length) : insM M y = M.take i ++ y :: M.drop i := by
  have key : M.takeWhile (fun x => beforeF x.j y.j) = M.take i ∧ M.dropWhile (fun x => beforeF x.j y.j) = M.drop i := by
    induction M generalizing i with
    | nil => simp
    | cons z M ih =>
      cases i with
      | zero =>
        have := h2 z rfl
        simp [List.takeWhile, List.dropWhile, this]
      | succ i =>
        have e := h1 0 z (by omega) rfl
        have := ih (i := i) (fun j x hj hx => h1 (j + 1) x (by omega) (by simpa using hx)) (fun x hx => h2 x (by simpa using hx)) (by simpa using hi)
        simp [List.takeWhile, List.dropWhile, e, this.1, this.2]
  unfold insM
  rw [key.1, key.2]
theorem insM_perm (M : List En) (y : En) : (insM M y).Perm (y :: M) := by
  unfold insM
  have := List.takeWhile_append_dropWhile (p := fun x : En => beforeF x.j y.j) (l := M)
  have h2 : (M.takeWhile (fun x => beforeF x.j y.j) ++ y :: M.dropWhile (fun x => beforeF x.j y.j)).Perm (y :: (M.takeWhile (fun x => beforeF x.j y.j) ++ M.dropWhile (fun x => beforeF x.j y.j))) := List.perm_middle
  rwa [this] at h2

theorem RAt.other {rb g cap n : Nat} {slots : Int} {M : List En} {w w' : World} {S : List Nat} (h : RAt rb g cap slots M n w) (ho : Only S w w') (h1 : rb ∉ S) (h2 : g ∉ S) (hS : ∀ s ∈ S, ∃ t, TyB w s t ∧ t ≠ 94) : RAt rb g cap slots M n w' := by
  have hb := ho.block rb h.q.ty.lt h1
  have c1 := (World.cell?_of_block (a := ⟨rb, 1, none⟩) hb).trans h.c1
  refine ⟨⟨(World.cell?_of_block (a := ⟨rb, 0, none⟩) hb).trans h.q.c0, ⟨_, c1, ?_⟩, h.q.thaw.same hb, h.q.ty.same hb, fun x hx => ⟨(h.q.frac x hx).1.only ho hS, (h.q.frac x hx).2.only ho hS⟩, h.q.ok⟩, h.len, c1⟩
  rw [h.len]
  exact owns_same h.own fun k hk => by
    cases hk
    exact ho.block g (h.own.lt g rfl).2 h2
end Go.Proofs.YtgnmolleaengaaaGreat
