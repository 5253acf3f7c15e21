/- The plain law of Schedule; the queue opened at its row; two rows of keys side by side. -/
import Derived.Test.YtgnmolleaengaaaGreatRf
set_option linter.unusedVariables false
set_option linter.unusedSimpArgs false
set_option linter.unnecessarySimpa false
namespace Go.Proofs.YtgnmolleaengaaaGreat
open Go Go.RowKit

def runOf (c : Int) (x : En) : Bool := x.held || decide (0 < c)
def cnt (c : Int) (x : En) : Int := if x.held then c else if 0 < c then c - 1 else c
def cntL (c : Int) (L : List En) : Int := L.foldl cnt c
def setRun (r : Bool) (x : En) : En := { x with run := r }
def schL (c : Int) : List En → List En
  | [] => []
  | x :: L => setRun (runOf c x) x :: schL (cnt c x) L
def schS (c : Int) : List En → List Ky
  | [] => []
  | x :: L => (if runOf c x && !x.run then [x.key] else []) ++ schS (cnt c x) L
def schP (c : Int) : List En → List Ky
  | [] => []
  | x :: L => (if !runOf c x && x.run then [x.key] else []) ++ schP (cnt c x) L
theorem cntL_snoc (c : Int) (L : List En) (x : En) : cntL c (L ++ [x]) = cnt (cntL c L) x := by simp [cntL]
theorem schL_snoc (L : List En) (x : En) : ∀ c, schL c (L ++ [x]) = schL c L ++ [setRun (runOf (cntL c L) x) x] := by
  induction L with
  | nil => intro c; rfl
  | cons y L ih => intro c; rw [List.cons_append, schL, ih, schL]; rfl
theorem schS_snoc (L : List En) (x : En) : ∀ c, schS c (L ++ [x]) = schS c L ++ (if runOf (cntL c L) x && !x.run then [x.key] else []) := by
  induction L with
  | nil => intro c; simp [schS, cntL]
  | cons y L ih => intro c; rw [List.cons_append, schS, ih, schS, List.append_assoc]; rfl
theorem schP_snoc (L : List En) (x : En) : ∀ c, schP c (L ++ [x]) = schP c L ++ (if !runOf (cntL c L) x && x.run then [x.key] else []) := by
  induction L with
  | nil => intro c; simp [schP, cntL]
  | cons y L ih => intro c; rw [List.cons_append, schP, ih, schP, List.append_assoc]; rfl
theorem schL_len (L : List En) : ∀ c, (schL c L).length = L.length := by
  induction L with
  | nil => intro c; rfl
  | cons y L ih => intro c; rw [schL, List.length_cons, ih, List.length_cons]
theorem schS_len (L : List En) : ∀ c, (schS c L).length ≤ L.length := by
  induction L with
  | nil => intro c; exact Nat.le_refl _
  | cons y L ih =>
    intro c
    rw [schS, List.length_append, List.length_cons]
    have := ih (cnt c y)
    split <;> simp <;> omega
theorem schP_len (L : List En) : ∀ c, (schP c L).length ≤ L.length := by
  induction L with
  | nil => intro c; exact Nat.le_refl _
  | cons y L ih =>
    intro c
    rw [schP, List.length_append, List.length_cons]
    have := ih (cnt c y)
    split <;> simp <;> omega
theorem take_snoc {α : Type} {L : List α} {k : Nat} {x : α} (h : L[k]? = some x) : L.take (k + 1) = L.take k ++ [x] := by
  rw [List.take_add_one, h]; rfl
/-- the row while the loop runs -/
theorem row_step {c : Int} {L : List En} {k : Nat} {x : En} (h : L[k]? = some x) {r : Bool} (hr : runOf (cntL c (L.take k)) x = r) :
    (schL c (L.take k) ++ L.drop k)[k]? = some x ∧ (schL c (L.take k) ++ L.drop k).set k (setRun r x) = schL c (L.take (k + 1)) ++ L.drop (k + 1) := by
  have hk : k < L.length := (List.getElem?_eq_some_iff.1 h).1
  have hl : (schL c (L.take k)).length = k := by rw [schL_len, List.length_take, Nat.min_eq_left (by omega)]
  have hd : L.drop k = x :: L.drop (k + 1) := by
    rw [List.drop_eq_getElem_cons hk, (List.getElem?_eq_some_iff.1 h).2]
  constructor
  · rw [List.getElem?_append_right (by omega), hl, Nat.sub_self, hd]; rfl
  · rw [List.set_append_right _ _ (by omega), hl, Nat.sub_self, hd, List.set_cons_zero, take_snoc h, schL_snoc, hr, List.append_assoc]; rfl
def heldK (L : List En) (k : Nat) : Nat := ((L.take k).filter En.held).length
theorem heldK_succ {L : List En} {k : Nat} {x : En} (h : L[k]? = some x) : heldK L (k + 1) = heldK L k + if x.held then 1 else 0 := by
  unfold heldK
  rw [take_snoc h, List.filter_append]
  cases hx : x.held <;> simp [hx]
def slotsL (slots : Int) (L : List En) : Int := slots - (L.filter En.held).length

/-- the queue, its row at g -/
structure QAt (B qb g cap : Nat) (slots : Int) (L : List En) (n : Nat) (w : World) : Prop where
  q : Qp B qb slots L w
  len : L.length = n
  c1 : w.cell? ⟨qb, 1, none⟩ = some (.slice (some ⟨g, 0, none⟩) n cap)
theorem Qp.at {B qb : Nat} {slots : Int} {L : List En} {w : World} {n : Nat} (h : Qp B qb slots L w) (hn : L.length = n) (h0 : 0 < n) : ∃ g cap, QAt B qb g cap slots L n w := by
  obtain ⟨v, h1, h2⟩ := h.row
  rw [hn] at h2
  rcases h2.2 with ⟨_, hz⟩ | ⟨g, cap, cur, e, _⟩
  · omega
  · exact ⟨g, cap, h, hn, by rw [h1, e]⟩
namespace QAt
variable {B qb g cap n : Nat} {slots : Int} {L : List En} {w w' : World}
theorem own (h : QAt B qb g cap slots L n w) : w.ownsRow B 76 9 (.slice (some ⟨g, 0, none⟩) n cap) n (eE.flat L) := by
  obtain ⟨v, h1, h2⟩ := h.q.row
  rw [h.c1] at h1
  cases h1
  rw [h.len] at h2
  exact h2
theorem ty (h : QAt B qb g cap slots L n w) : TyB w g 76 := owns_ty h.own rfl
theorem base (h : QAt B qb g cap slots L n w) : B ≤ g := (h.own.lt g rfl).1
theorem caps (h : QAt B qb g cap slots L n w) : n ≤ cap ∧ cap ≤ 9223372036854775807 := by
  rcases h.own.2 with ⟨h0, _⟩ | ⟨g', cap', cur, he, _, _, h1, h2, _⟩
  · cases h0
  · cases he; unfold maxLen at h2; exact ⟨h1, h2⟩
theorem ne (h : QAt B qb g cap slots L n w) : g ≠ qb := h.ty.ne h.q.ty (by decide)
theorem cell (h : QAt B qb g cap slots L n w) {i j : Nat} {x : En} {v : Value} (hi : L[i]? = some x) (hj : (ec x).toList[j]? = some v) : w.cell? ⟨g, i * 9 + j, none⟩ = some v := by
  have hjl : j < 9 := (List.getElem?_eq_some_iff.1 hj).1
  have hil : i < n := by rw [← h.len]; exact (List.getElem?_eq_some_iff.1 hi).1
  rw [h.own.cellAt _ (by omega)]
  exact (flat_get (E := eE) L i x j hi hjl).trans hj
theorem entry (h : QAt B qb g cap slots L n w) {i : Nat} {x : En} (hi : L[i]? = some x) :
    w.cell? ⟨g, i * 9, none⟩ = some (.int .i64 x.j.vol) ∧ w.cell? ⟨g, i * 9 + 1, none⟩ = some (.int .i64 x.j.frag) ∧ w.cell? ⟨g, i * 9 + 2, none⟩ = some (.int .i64 x.j.cls) ∧ w.cell? ⟨g, i * 9 + 3, none⟩ = some (.bool false) ∧ w.cell? ⟨g, i * 9 + 4, none⟩ = some x.num ∧ w.cell? ⟨g, i * 9 + 5, none⟩ = some x.den ∧ w.cell? ⟨g, i * 9 + 6, none⟩ = some (.int .i64 x.j.rem) ∧ w.cell? ⟨g, i * 9 + 7, none⟩ = some (.bool x.run) ∧ w.cell? ⟨g, i * 9 + 8, none⟩ = some (.bool x.held) :=
  ⟨h.cell (j := 0) hi rfl, h.cell (j := 1) hi rfl, h.cell (j := 2) hi rfl, h.cell (j := 3) hi rfl, h.cell (j := 4) hi rfl, h.cell (j := 5) hi rfl, h.cell (j := 6) hi rfl, h.cell (j := 7) hi rfl, h.cell (j := 8) hi rfl⟩
theorem cold (h : QAt B qb g cap slots L n w) (o : Nat) : w.frozen? ⟨g, o, none⟩ = false := h.own.frozenAt o
theorem keep (h : QAt B qb g cap slots L n w) (hb : Below w.heap.size w w') : QAt B qb g cap slots L n w' := ⟨h.q.keep hb, h.len, (hb.cell (p := ⟨qb, 1, none⟩) h.q.ty.lt).trans h.c1⟩
theorem grown {u : Value} {B' e s m : Nat} {xs : List Value} (h : QAt B qb g cap slots L n w) (ho : w.ownsRow B' e s u m xs) (h5 : e ≠ 68) (h6 : e ≠ 76) (h7 : e ≠ 94) (hg : w.grownBy w' u.ownBlock) : QAt B qb g cap slots L n w' :=
  ⟨h.q.grown ho h5 h6 h7 hg, h.len, hg.cell h.c1 fun e => h5 ((owns_ty ho e.symm).uniq h.q.ty)⟩
theorem mark (h : QAt B qb g cap slots L n w) {i j : Nat} {x x' : En} {b : Bool} (hx : L[i]? = some x) (hj : j < 9) (hf : eE.f x' = (eE.f x).set j (.bool b)) (hjj : x'.j = x.j) (hnum : x'.num = x.num) (hden : x'.den = x.den) :
    QAt B qb g cap slots (L.set i x') n (w.setCell ⟨g, i * 9 + j, none⟩ (.bool b)) :=
  ⟨h.q.mark h.c1 h.len hx hj hf hjj hnum hden, by rw [List.length_set]; exact h.len, (World.cell?_setCell_other _ _ _ _ (by simp [h.ne])).trans h.c1⟩
theorem setRun (h : QAt B qb g cap slots L n w) {i : Nat} {x : En} {b : Bool} (hx : L[i]? = some x) : QAt B qb g cap slots (L.set i (setRun b x)) n (w.setCell ⟨g, i * 9 + 7, none⟩ (.bool b)) :=
  h.mark hx (by decide) rfl rfl rfl rfl
theorem setHeld (h : QAt B qb g cap slots L n w) {i : Nat} {x : En} (hx : L[i]? = some x) : QAt B qb g cap slots (L.set i { x with held := true }) n (w.setCell ⟨g, i * 9 + 8, none⟩ (.bool true)) :=
  h.mark hx (by decide) rfl rfl rfl rfl
end QAt

/-- two rows of keys, both newer than B0 -/
structure Two (B0 : Nat) (w0 w : World) (v1 v2 : Value) (S P : List Ky) : Prop where
  o1 : Ow eK 33 w0 w v1 S
  o2 : Ow eK 33 w0 w v2 P
  n1 : ∀ k, v1.ownBlock = some k → B0 ≤ k
  n2 : ∀ k, v2.ownBlock = some k → B0 ≤ k
  ne : ∀ k, v1.ownBlock = some k → v2.ownBlock ≠ some k
  sz : B0 ≤ w.heap.size
namespace Two
variable {B0 : Nat} {w0 w w' w3 : World} {v1 v2 : Value} {S P : List Ky}
theorem swap (h : Two B0 w0 w v1 v2 S P) : Two B0 w0 w v2 v1 P S := ⟨h.o2, h.o1, h.n2, h.n1, fun k h2 h1 => h.ne k h1 h2, h.sz⟩
theorem start {w0 w : World} (hb : Below w0.heap.size w0 w) (hB : B0 ≤ w.heap.size) : Two B0 w0 w (.slice none 0 0) (.slice none 0 0) [] [] :=
  ⟨Ow.begin hb, Ow.begin hb, (fun k hk => by cases hk), (fun k hk => by cases hk), (fun k hk => by cases hk), hB⟩
theorem keep (h : Two B0 w0 w v1 v2 S P) (hb : Below w.heap.size w w') : Two B0 w0 w' v1 v2 S P := ⟨h.o1.grow hb, h.o2.grow hb, h.n1, h.n2, h.ne, Nat.le_trans h.sz hb.size⟩
theorem push (h : Two B0 w0 w v1 v2 S P) {v1' : Value} {S' : List Ky} (ho : Ow eK 33 w0 w3 v1' S') (hg : Grew w w3 v1 v1') : Two B0 w0 w3 v1' v2 S' P := by
  refine ⟨ho, ⟨ho.below, owns_same h.o2.row fun k hk => hg.by_.block k (h.o2.row.lt k hk).2 fun e => h.ne k e.symm hk, fun t ht => by cases ht⟩, fun k hk => ?_, h.n2, fun k hk hk2 => ?_, Nat.le_trans h.sz hg.by_.size⟩
  · rcases hg.at_ with e | e
    · rw [e] at hk; exact h.n1 k hk
    · rw [e] at hk; cases hk; exact h.sz
  · rcases hg.at_ with e | e
    · rw [e] at hk; exact h.ne k hk hk2
    · rw [e] at hk; cases hk
      have := (h.o2.row.lt _ hk2).2
      omega
theorem store (h : Two B0 w0 w v1 v2 S P) {g : Nat} (hg : TyB w g 76) (hB : w0.heap.size ≤ g) (i : Nat) (u : Value) : Two B0 w0 (w.setCell ⟨g, i, none⟩ u) v1 v2 S P := by
  have key : ∀ (v : Value) (L : List Ky), Ow eK 33 w0 w v L → Ow eK 33 w0 (w.setCell ⟨g, i, none⟩ u) v L := fun v L h =>
    ⟨h.below.setCell (p := ⟨g, i, none⟩) hB u, owns_same h.row fun k hk => Below.heap_setCell _ _ _ _ fun e => by
      have e : k = g := e
      subst e
      exact absurd ((owns_ty h.row hk).uniq hg) (by decide), fun t ht => by cases ht⟩
  exact ⟨key _ _ h.o1, key _ _ h.o2, h.n1, h.n2, h.ne, by simpa using h.sz⟩
end Two
end Go.Proofs.YtgnmolleaengaaaGreat

/- The walk of Schedule. -/
namespace Go.Proofs.YtgnmolleaengaaaGreat
open Go Go.RowKit

def SchedPost (B qb : Nat) (slots : Int) (L : List En) (w : World) (e : Ending) (w' : World) : Prop :=
  ∃ a S' c a2 P' c2, e = .returned (.tuple #[.slice a S'.length c, .slice a2 P'.length c2]) ∧ (S'.Perm (schS (slotsL slots L) L) ∧ S'.Pairwise (fun x y => ltK y x = false)) ∧ (P'.Perm (schP (slotsL slots L) L) ∧ P'.Pairwise (fun x y => ltK y x = false)) ∧
    Rt eK 33 w' (.slice a S'.length c) S' ∧ Rt eK 33 w' (.slice a2 P'.length c2) P' ∧ Qp B qb slots (schL (slotsL slots L) L) w' ∧ Qt B w w'

/-- the state of the loop -/
structure Sc (B qb : Nat) (slots c0 : Int) (L : List En) (n : Nat) (w wr : World) (k : Nat) (c : Int) (v1 v2 : Value) (N1 N2 : Nat) : Prop where
  ec : c = cntL c0 (L.take k)
  e1 : N1 = (schS c0 (L.take k)).length
  e2 : N2 = (schP c0 (L.take k)).length
  two : Two w.heap.size (cut B w) wr v1 v2 (schS c0 (L.take k)) (schP c0 (L.take k))
  q : Qp B qb slots (schL c0 (L.take k) ++ L.drop k) wr
  t : Qt B w wr
theorem sch_len {L : List En} {n : Nat} (hn : L.length = n) (c0 : Int) (k : Nat) : (schL c0 (L.take k) ++ L.drop k).length = n := by
  rw [List.length_append, schL_len, List.length_take, List.length_drop]; omega
theorem Sc.next {B qb g cap : Nat} {slots c0 : Int} {L : List En} {n : Nat} {w W : World} {k : Nat} {c c' : Int} {v1 v2 : Value} {N1 N2 : Nat} {x : En} {r : Bool} {S' P' : List Ky} (hx : L[k]? = some x) (hec : c = cntL c0 (L.take k)) (hr : runOf c x = r) (hc' : cnt c x = c')
    (hS : S' = schS c0 (L.take k) ++ (if r && !x.run then [x.key] else [])) (hP : P' = schP c0 (L.take k) ++ (if !r && x.run then [x.key] else [])) (hN1 : N1 = S'.length) (hN2 : N2 = P'.length)
    (hT : Two w.heap.size (cut B w) W v1 v2 S' P') (hQ : QAt B qb g cap slots (schL c0 (L.take k) ++ L.drop k) n W) (ht : Qt B w W) (hB : B ≤ w.heap.size) :
    Sc B qb slots c0 L n w (W.setCell ⟨g, k * 9 + 7, none⟩ (.bool r)) (k + 1) c' v1 v2 N1 N2 := by
  subst hec hr
  have es : S' = schS c0 (L.take (k + 1)) := by rw [hS, take_snoc hx, schS_snoc]
  have ep : P' = schP c0 (L.take (k + 1)) := by rw [hP, take_snoc hx, schP_snoc]
  obtain ⟨r1, r2⟩ := row_step hx (c := c0) rfl
  subst es ep
  refine ⟨by rw [take_snoc hx, cntL_snoc, hc'], hN1, hN2, hT.store hQ.ty (by rw [cut_size hB]; exact hQ.base) _ _, ?_, ht.set (.inl hQ.ty) hQ.base _ _⟩
  have := (hQ.setRun (b := runOf (cntL c0 (L.take k)) x) r1).q
  rw [r2] at this
  exact this

theorem Two.other {B0 : Nat} {w0 w w' : World} {v1 v2 : Value} {S P : List Ky} (h : Two B0 w0 w v1 v2 S P) (hg : w.grownBy w' v1.ownBlock) : Ow eK 33 w0 w' v2 P :=
  ⟨h.o1.below.grown hg h.o1.below.size (fun k hk => (h.o1.row.lt k hk).1), owns_same h.o2.row fun k hk => hg.block k (h.o2.row.lt k hk).2 fun e => h.ne k e.symm hk, (fun t ht => by cases ht)⟩
theorem Rt.same {α : Type} {E : Enc α} {t : TypeId} {w w' : World} {v : Value} {l : List α} (h : Rt E t w v l) (hs : w.heap.size ≤ w'.heap.size) (hk : ∀ k, v.ownBlock = some k → w'.heap[k]? = w.heap[k]?) : Rt E t w' v l :=
  ⟨h.rd.same hs hk, fun k hk' => (h.ty k hk').same (hk k hk')⟩




set_option maxRecDepth 20000 in
set_option maxHeartbeats 4000000 in
theorem schedule_as {B qb : Nat} {slots : Int} {L : List En} {w : World} (h : Qp B qb slots L w) (hB : B ≤ w.heap.size) (hl : L.length ≤ 1000) (h1 : 0 ≤ slots) (h2 : slots ≤ 48) : Calls Tryz.prog 25 #[.pointer (some ⟨qb, 0, none⟩)] w (SchedPost B qb slots L w) := by
  obtain ⟨n, hn⟩ : ∃ n, L.length = n := ⟨_, rfl⟩
  have HN := Lib.hid hn
  obtain ⟨a, cap, c1, hrd⟩ := h.list (by omega)
  rw [hn] at hl hrd c1
  have HR := Lib.hid hrd
  have HQ := Lib.hid h
  have HBB := Lib.hid hB
  have C1 := Lib.hid c1
  have c0 := h.c0
  have HC0 := Lib.hid c0
  have HQL := Lib.hid h.ty.lt
  clear h hn hrd hB
  go_enter Tryz.func25, Tryz.ntmps25
  go_wp2_with fail
  go_loopw [4, 23] (fun x y wr => ∃ (k : Nat) (c : Int), k ≤ n ∧ y = .int .i64 k ∧ x = .int .i64 c ∧ -(k : Int) ≤ c ∧ c ≤ 48 ∧ Hid (c = slots - heldK L k) ∧ Hid (Below w.heap.size w wr)) (fun _ y _ => n - (intOf y).toNat)
  case atStart => exact ⟨0, slots, by omega, rfl, rfl, by omega, h2, Lib.hid (by simp [heldK]), Lib.hid (Below.refl _ _)⟩
  case round =>
    rename World => wr
    obtain ⟨k, c, hk, rfl, rfl, hc1, hc2, HC, HB⟩ := hrel
    by_cases hkn : k < n
    · obtain ⟨x, hx⟩ : ∃ x, L[k]? = some x := ⟨L[k]'(by have := HN.out; omega), by simp⟩
      obtain ⟨g, off, rfl, hg, hcell⟩ := HR.out.entry hx
      obtain ⟨b0, b1, b2, b3, b4, b5, b6, b7, b8⟩ := hcell _ HB.out
      have HS := Lib.hid (heldK_succ hx)
      have HBX := Lib.hid (below_alloc wr (.cells (ec x) 76))
      clear hx hcell hg
      cases hh : x.held with
      | true =>
        rw [hh] at HS b8
        have HC2 := Lib.hid (show c - 1 = slots - heldK L (k + 1) by rw [HS.out, HC.out]; simp; omega)
        obtain ⟨⟨a1, a2, a3, a4, n1, d1⟩, na, nc, da, dc, ru, se⟩ := x
        obtain rfl : se = true := hh
        clear HS
        go_wp2_with fail
        go_roundw
        case rel => exact ⟨k + 1, c - 1, by omega, by go_num, rfl, by omega, by omega, HC2, Lib.hid (HB.out.trans (HBX.out.mono HB.out.size))⟩
        case measure => simp [intOf]; omega
      | false =>
        rw [hh] at HS b8
        have HC2 := Lib.hid (show c = slots - heldK L (k + 1) by rw [HS.out, HC.out]; simp)
        obtain ⟨⟨a1, a2, a3, a4, n1, d1⟩, na, nc, da, dc, ru, se⟩ := x
        obtain rfl : se = false := hh
        clear HS
        go_wp2_with fail
        go_roundw
        case rel => exact ⟨k + 1, c, by omega, by go_num, rfl, by omega, by omega, HC2, Lib.hid (HB.out.trans (HBX.out.mono HB.out.size))⟩
        case measure => simp [intOf]; omega
    · obtain rfl : k = n := by omega
      have HQ1 := Lib.hid (HQ.out.keep HB.out)
      have d1 := (HB.out.cell (p := ⟨qb, 1, none⟩) HQL.out).trans C1.out
      have HC3 := Lib.hid (show c = slotsL slots L by rw [HC.out, heldK, ← HN.out, List.take_length]; rfl)
      have HSC := Lib.hid (show Sc B qb slots (slotsL slots L) L k w wr 0 c (.slice none 0 0) (.slice none 0 0) 0 0 from
        ⟨by rw [HC3.out]; rfl, rfl, rfl, Two.start ((cut_below HBB.out).trans (HB.out.mono (by rw [cut_size HBB.out]; exact HBB.out))) HB.out.size, by
          show Qp B qb slots ([] ++ L.drop 0) wr
          rw [List.nil_append, List.drop_zero]
          exact HQ1.out, Qt.of_below HB.out B⟩)
      have hc3 : -1000 ≤ c := by omega
      clear HC HC3 hc1 HQ HC0 HR
      go_wp2_with fail
      clear d1
      obtain ⟨c0, hc0⟩ : ∃ c0, slotsL slots L = c0 := ⟨_, rfl⟩
      have HCC := Lib.hid hc0
      rw [hc0] at HSC
      clear hc0
      go_loopw [4, 7, 8, 37] (fun x y z u wr => ∃ (i : Nat) (c : Int) (p1 p2 : Option Addr) (N1 N2 q1 q2 : Nat), i ≤ k ∧ u = .int .i64 i ∧ x = .int .i64 c ∧ y = .slice p1 N1 q1 ∧ z = .slice p2 N2 q2 ∧ -1000 ≤ c ∧ c ≤ 48 ∧ Hid (Sc B qb slots c0 L k w wr i c (.slice p1 N1 q1) (.slice p2 N2 q2) N1 N2)) (fun _ _ _ u _ => k - (intOf u).toNat)
      case atStart => exact ⟨0, c, none, none, 0, 0, 0, 0, by omega, rfl, rfl, rfl, rfl, hc3, hc2, HSC⟩
      case round =>
        clear HSC hc3 hc2
        obtain ⟨i, c, p1, p2, N1, N2, q1, q2, hi, rfl, rfl, rfl, rfl, hc1, hc2, HSC⟩ := hrel
        rename World => wr
        by_cases hik : i < k
        · obtain ⟨x, hx⟩ : ∃ x, L[i]? = some x := ⟨L[i]'(by have := HN.out; omega), by simp⟩
          have hrow := (row_step hx (c := c0) rfl).1
          have HXX := Lib.hid hrow
          have HX := Lib.hid hx
          have HEC := Lib.hid HSC.out.ec
          obtain ⟨g, cap2, hqa⟩ := HSC.out.q.at (sch_len HN.out c0 i) (by omega)
          have HQA := Lib.hid hqa
          have HT := Lib.hid HSC.out.two
          have Ht := Lib.hid HSC.out.t
          have he1 := HSC.out.e1
          have he2 := HSC.out.e2
          have HL1 := Lib.hid (show (schS c0 (L.take i)).length ≤ 1000 by have := schS_len (L.take i) c0; rw [List.length_take] at this; omega)
          have HL2 := Lib.hid (show (schP c0 (L.take i)).length ≤ 1000 by have := schP_len (L.take i) c0; rw [List.length_take] at this; omega)
          subst he1 he2
          have cl := hqa.caps
          have cl1 := cl.1
          have cl2 := cl.2
          have cc1 := hqa.c1
          obtain ⟨b0, b1, b2, b3, b4, b5, b6, b7, b8⟩ := hqa.entry hrow
          have bf := hqa.cold (i * 9 + 7)
          clear hx hrow hqa HSC cl
          cases hh : x.held with
          | true =>
            have HR := Lib.hid (show runOf c x = true by simp [runOf, hh])
            have HCN := Lib.hid (show cnt c x = c by simp [cnt, hh])
            rw [hh] at b8
            cases hr : x.run with
            | true =>
              have HS := Lib.hid (show (if true && !x.run then [x.key] else []) = [] by simp [hr])
              have HP := Lib.hid (show (if !true && x.run then [x.key] else []) = [] by simp [hr])
              rw [hr] at b7
              obtain ⟨⟨a1, a2, a3, a4, n1, d1⟩, na, nc, da, dc, ru, se⟩ := x
              clear hh hr
              go_wp2_with fail
              go_roundw
              case rel => exact ⟨i + 1, c, p1, p2, _, _, q1, q2, by omega, by go_num, rfl, rfl, rfl, by omega, by omega, Lib.hid (Sc.next HX.out HEC.out HR.out HCN.out (by rw [HS.out, List.append_nil]) (by rw [HP.out, List.append_nil]) rfl rfl HT.out HQA.out Ht.out HBB.out)⟩
              case measure => simp [intOf]; omega
            | false =>
              have HS := Lib.hid (show (if true && !x.run then [x.key] else []) = [x.key] by simp [hr])
              have HP := Lib.hid (show (if !true && x.run then [x.key] else []) = [] by simp [hr])
              rw [hr] at b7
              obtain ⟨⟨a1, a2, a3, a4, n1, d1⟩, na, nc, da, dc, ru, se⟩ := x
              clear hh hr
              go_wp2_with (first | (
                                     go_at_call 34
                                     (with_reducible refine (key_as ⟨a1, a2, a3, a4, n1, d1⟩ _ _ _ _ _ _ _).mono ?_)
                                     rintro e w2 ⟨rfl, hb⟩
                                     have HT2 := Lib.hid (HT.out.keep hb)
                                     have HQ2 := Lib.hid (HQA.out.keep hb)
                                     have Ht2 := Lib.hid (Ht.out.keep hb)
                                     clear hb) | (
                                                   at_builtin
                                                   refine wpList_push elt42 (E := eK) (x := (a1, a2)) _ _ rfl rfl rfl rfl rfl HT2.out.o1 (by have := HL1.out; omega) ?_
                                                   intro p3 c3 w3 HO3 HG3
                                                   have hx := below_alloc w2 (.cells (eK.f (a1, a2)).toArray 33)
                                                   have HT3 := Lib.hid ((HT2.out.keep hx).push HO3.out HG3.out)
                                                   have HQ3 := Lib.hid ((HQ2.out.keep hx).grown (HT2.out.keep hx).o1.row (by decide) (by decide) (by decide) HG3.out.by_)
                                                   have Ht3 := Lib.hid ((Ht2.out.keep hx).grown HG3.out.by_ HT2.out.n1)
                                                   obtain ⟨e0, e1, e2, e3, e4, e5, e6, e7, e8⟩ := HQ3.out.entry HXX.out
                                                   have ef := HQ3.out.cold (i * 9 + 7)
                                                   clear hx))
              go_roundw
              case rel => exact ⟨i + 1, c, p3, p2, _, _, c3, q2, by omega, by go_num, rfl, rfl, rfl, by omega, by omega, Lib.hid (Sc.next HX.out HEC.out HR.out HCN.out (by rw [HS.out]) (by rw [HP.out, List.append_nil]) (by rw [List.length_append]; rfl) rfl HT3.out HQ3.out Ht3.out HBB.out)⟩
              case measure => simp [intOf]; omega
          | false =>
            rw [hh] at b8
            by_cases hc : 0 < c
            · have HR := Lib.hid (show runOf c x = true by simp [runOf, hh, hc])
              have HCN := Lib.hid (show cnt c x = c - 1 by simp [cnt, hh, hc])
              cases hr : x.run with
              | true =>
                have HS := Lib.hid (show (if true && !x.run then [x.key] else []) = [] by simp [hr])
                have HP := Lib.hid (show (if !true && x.run then [x.key] else []) = [] by simp [hr])
                rw [hr] at b7
                obtain ⟨⟨a1, a2, a3, a4, n1, d1⟩, na, nc, da, dc, ru, se⟩ := x
                clear hh hr
                go_wp2_with fail
                go_roundw
                case rel => exact ⟨i + 1, c - 1, p1, p2, _, _, q1, q2, by omega, by go_num, rfl, rfl, rfl, by omega, by omega, Lib.hid (Sc.next HX.out HEC.out HR.out HCN.out (by rw [HS.out, List.append_nil]) (by rw [HP.out, List.append_nil]) rfl rfl HT.out HQA.out Ht.out HBB.out)⟩
                case measure => simp [intOf]; omega
              | false =>
                have HS := Lib.hid (show (if true && !x.run then [x.key] else []) = [x.key] by simp [hr])
                have HP := Lib.hid (show (if !true && x.run then [x.key] else []) = [] by simp [hr])
                rw [hr] at b7
                obtain ⟨⟨a1, a2, a3, a4, n1, d1⟩, na, nc, da, dc, ru, se⟩ := x
                clear hh hr
                go_wp2_with (first | (
                                       go_at_call 34
                                       (with_reducible refine (key_as ⟨a1, a2, a3, a4, n1, d1⟩ _ _ _ _ _ _ _).mono ?_)
                                       rintro e w2 ⟨rfl, hb⟩
                                       have HT2 := Lib.hid (HT.out.keep hb)
                                       have HQ2 := Lib.hid (HQA.out.keep hb)
                                       have Ht2 := Lib.hid (Ht.out.keep hb)
                                       clear hb) | (
                                                     at_builtin
                                                     refine wpList_push elt42 (E := eK) (x := (a1, a2)) _ _ rfl rfl rfl rfl rfl HT2.out.o1 (by have := HL1.out; omega) ?_
                                                     intro p3 c3 w3 HO3 HG3
                                                     have hx := below_alloc w2 (.cells (eK.f (a1, a2)).toArray 33)
                                                     have HT3 := Lib.hid ((HT2.out.keep hx).push HO3.out HG3.out)
                                                     have HQ3 := Lib.hid ((HQ2.out.keep hx).grown (HT2.out.keep hx).o1.row (by decide) (by decide) (by decide) HG3.out.by_)
                                                     have Ht3 := Lib.hid ((Ht2.out.keep hx).grown HG3.out.by_ HT2.out.n1)
                                                     obtain ⟨e0, e1, e2, e3, e4, e5, e6, e7, e8⟩ := HQ3.out.entry HXX.out
                                                     have ef := HQ3.out.cold (i * 9 + 7)
                                                     clear hx))
                go_roundw
                case rel => exact ⟨i + 1, c - 1, p3, p2, _, _, c3, q2, by omega, by go_num, rfl, rfl, rfl, by omega, by omega, Lib.hid (Sc.next HX.out HEC.out HR.out HCN.out (by rw [HS.out]) (by rw [HP.out, List.append_nil]) (by rw [List.length_append]; rfl) rfl HT3.out HQ3.out Ht3.out HBB.out)⟩
                case measure => simp [intOf]; omega
            · have HR := Lib.hid (show runOf c x = false by simp [runOf, hh, hc])
              have HCN := Lib.hid (show cnt c x = c by simp [cnt, hh, hc])
              have hd : decide (0 < c) = false := by simpa using hc
              clear hc
              cases hr : x.run with
              | true =>
                have HS := Lib.hid (show (if false && !x.run then [x.key] else []) = [] by simp [hr])
                have HP := Lib.hid (show (if !false && x.run then [x.key] else []) = [x.key] by simp [hr])
                rw [hr] at b7
                obtain ⟨⟨a1, a2, a3, a4, n1, d1⟩, na, nc, da, dc, ru, se⟩ := x
                clear hh hr
                go_wp2_with (first | (
                                       go_at_call 34
                                       (with_reducible refine (key_as ⟨a1, a2, a3, a4, n1, d1⟩ _ _ _ _ _ _ _).mono ?_)
                                       rintro e w2 ⟨rfl, hb⟩
                                       have HT2 := Lib.hid (HT.out.keep hb)
                                       have HQ2 := Lib.hid (HQA.out.keep hb)
                                       have Ht2 := Lib.hid (Ht.out.keep hb)
                                       clear hb) | (
                                                     at_builtin
                                                     refine wpList_push elt42 (E := eK) (x := (a1, a2)) _ _ rfl rfl rfl rfl rfl HT2.out.o2 (by have := HL2.out; omega) ?_
                                                     intro p3 c3 w3 HO3 HG3
                                                     have hx := below_alloc w2 (.cells (eK.f (a1, a2)).toArray 33)
                                                     have HT3 := Lib.hid (((HT2.out.keep hx).swap.push HO3.out HG3.out).swap)
                                                     have HQ3 := Lib.hid ((HQ2.out.keep hx).grown (HT2.out.keep hx).o2.row (by decide) (by decide) (by decide) HG3.out.by_)
                                                     have Ht3 := Lib.hid ((Ht2.out.keep hx).grown HG3.out.by_ HT2.out.n2)
                                                     obtain ⟨e0, e1, e2, e3, e4, e5, e6, e7, e8⟩ := HQ3.out.entry HXX.out
                                                     have ef := HQ3.out.cold (i * 9 + 7)
                                                     clear hx))
                go_roundw
                case rel => exact ⟨i + 1, c, p1, p3, _, _, q1, c3, by omega, by go_num, rfl, rfl, rfl, by omega, by omega, Lib.hid (Sc.next HX.out HEC.out HR.out HCN.out (by rw [HS.out, List.append_nil]) (by rw [HP.out]) rfl (by rw [List.length_append]; rfl) HT3.out HQ3.out Ht3.out HBB.out)⟩
                case measure => simp [intOf]; omega
              | false =>
                have HS := Lib.hid (show (if false && !x.run then [x.key] else []) = [] by simp [hr])
                have HP := Lib.hid (show (if !false && x.run then [x.key] else []) = [] by simp [hr])
                rw [hr] at b7
                obtain ⟨⟨a1, a2, a3, a4, n1, d1⟩, na, nc, da, dc, ru, se⟩ := x
                clear hh hr
                go_wp2_with fail
                go_roundw
                case rel => exact ⟨i + 1, c, p1, p2, _, _, q1, q2, by omega, by go_num, rfl, rfl, rfl, by omega, by omega, Lib.hid (Sc.next HX.out HEC.out HR.out HCN.out (by rw [HS.out, List.append_nil]) (by rw [HP.out, List.append_nil]) rfl rfl HT.out HQA.out Ht.out HBB.out)⟩
                case measure => simp [intOf]; omega
        · obtain rfl : i = k := by omega
          have HQF := Lib.hid (show Qp B qb slots (schL c0 L) wr by
            have := HSC.out.q
            rwa [← HN.out, List.take_length, List.drop_length, List.append_nil] at this)
          have HT := Lib.hid (show Two w.heap.size (cut B w) wr (.slice p1 N1 q1) (.slice p2 N2 q2) (schS c0 L) (schP c0 L) by
            have := HSC.out.two
            rwa [← HN.out, List.take_length] at this)
          have Ht := Lib.hid HSC.out.t
          have he1 := HSC.out.e1
          have he2 := HSC.out.e2
          have HL1 := Lib.hid (show N1 ≤ 1000 by have := schS_len (L.take i) c0; rw [List.length_take] at this; omega)
          have HL2 := Lib.hid (show N2 ≤ 1000 by have := schP_len (L.take i) c0; rw [List.length_take] at this; omega)
          clear HSC he1 he2
          have K1 := Lib.hid (sorted_as HT.out.o1 HL1.out)
          go_wp2_with (first
            | (go_at_call 38; (with_reducible refine K1.out.mono ?_); rintro e w2 ⟨rfl, hs, hg⟩; have HS1 := Lib.hid hs; have HG1 := Lib.hid hg; have HO2 := Lib.hid (HT.out.other hg); have K2 := Lib.hid (sorted_as HO2.out HL2.out); clear hs hg)
            | (go_at_call 38; (with_reducible refine K2.out.mono ?_); rintro e w3 ⟨rfl, hs, hg⟩; have HS2 := Lib.hid hs; have HG2 := Lib.hid hg; clear hs hg))
          go_ret2
          obtain ⟨S', hp1, hs1, hr1⟩ := HS1.out
          obtain ⟨P', hp2, hs2, hr2⟩ := HS2.out
          have hr3 : Rt eK 33 w3 (.slice p1 N1 q1) S' := hr1.same HG2.out.size fun k hk => HG2.out.block k (hr1.ty k hk).lt fun e => HT.out.ne k hk e.symm
          have hq2 := HQF.out.grown HT.out.o1.row (by decide) (by decide) (by decide) HG1.out
          have hq3 := hq2.grown HO2.out.row (by decide) (by decide) (by decide) HG2.out
          have ht3 := (Ht.out.grown HG1.out HT.out.n1).grown HG2.out HT.out.n2
          have e1 : N1 = S'.length := hr3.rd.caps.2.2
          have e2 : N2 = P'.length := hr2.rd.caps.2.2
          subst e1 e2
          have hcc := HCC.out
          subst hcc
          exact ⟨p1, S', q1, p2, P', q2, rfl, ⟨hp1, hs1⟩, ⟨hp2, hs2⟩, hr3, hr2, hq3, ht3⟩
end Go.Proofs.YtgnmolleaengaaaGreat
