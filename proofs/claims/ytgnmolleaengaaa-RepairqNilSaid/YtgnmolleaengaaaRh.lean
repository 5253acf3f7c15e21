/- The plain law of Schedule; the queue opened at its row; two rows of keys side by side. -/
import Derived.Test.YtgnmolleaengaaaRf
set_option linter.unusedVariables false
set_option linter.unusedSimpArgs false
set_option linter.unnecessarySimpa false
namespace Go.Proofs.Ytgnmolleaengaaa
open Go Go.RowKit

def runOf (c : Int) (x : En) : Bool := x.held || decide (0 < c)
def cnt (c : Int) (x : En) : Int := if x.held then c else if 0 < c then c - 1 else c
def cntL (c : Int) (L : List En) : Int := L.foldl cnt c
def setRun (r : Bool) (x : En) : En := { x with run := r }
def schL (c : Int) : List En → List En
  | [] => []
  | x :: L => setRun (runOf c x) x :: schL (cnt c x) L
def schS (c : Int) : List En → List Ky
  | [] => []
  | x :: L => (if runOf c x && !x.run then [x.key] else []) ++ schS (cnt c x) L
def schP (c : Int) : List En → List Ky
  | [] => []
  | x :: L => (if !runOf c x && x.run then [x.key] else []) ++ schP (cnt c x) L
theorem cntL_snoc (c : Int) (L : List En) (x : En) : cntL c (L ++ [x]) = cnt (cntL c L) x := by simp [cntL]
theorem schL_snoc (L : List En) (x : En) : ∀ c, schL c (L ++ [x]) = schL c L ++ [setRun (runOf (cntL c L) x) x] := by
  induction L with
  | nil => intro c; rfl
  | cons y L ih => intro c; rw [List.cons_append, schL, ih, schL]; rfl
theorem schS_snoc (L : List En) (x : En) : ∀ c, schS c (L ++ [x]) = schS c L ++ (if runOf (cntL c L) x && !x.run then [x.key] else []) := by
  induction L with
  | nil => intro c; simp [schS, cntL]
  | cons y L ih => intro c; rw [List.cons_append, schS, ih, schS, List.append_assoc]; rfl
theorem schP_snoc (L : List En) (x : En) : ∀ c, schP c (L ++ [x]) = schP c L ++ (if !runOf (cntL c L) x && x.run then [x.key] else []) := by
  induction L with
  | nil => intro c; simp [schP, cntL]
  | cons y L ih => intro c; rw [List.cons_append, schP, ih, schP, List.append_assoc]; rfl
theorem schL_len (L : List En) : ∀ c, (schL c L).length = L.length := by
  induction L with
  | nil => intro c; rfl
  | cons y L ih => intro c; rw [schL, List.length_cons, ih, List.length_cons]
theorem schS_len (L : List En) : ∀ c, (schS c L).length ≤ L.length := by
  induction L with
  | nil => intro c; exact Nat.le_refl _
  | cons y L ih =>
    intro c
    rw [schS, List.length_append, List.length_cons]
    have := ih (cnt c y)
    split <;> simp <;> omega
theorem schP_len (L : List En) : ∀ c, (schP c L).length ≤ L.length := by
  induction L with
  | nil => intro c; exact Nat.le_refl _
  | cons y L ih =>
    intro c
    rw [schP, List.length_append, List.length_cons]
    have := ih (cnt c y)
    split <;> simp <;> omega
theorem take_snoc {α : Type} {L : List α} {k : Nat} {x : α} (h : L[k]? = some x) : L.take (k + 1) = L.take k ++ [x] := by
  rw [List.take_add_one, h]; rfl
/-- the row while the loop runs -/
theorem row_step {c : Int} {L : List En} {k : Nat} {x : En} (h : L[k]? = some x) {r : Bool} (hr : runOf (cntL c (L.take k)) x = r) :
    (schL c (L.take k) ++ L.drop k)[k]? = some x ∧ (schL c (L.take k) ++ L.drop k).set k (setRun r x) = schL c (L.take (k + 1)) ++ L.drop (k + 1) := by
  have hk : k < L.length := (List.getElem?_eq_some_iff.1 h).1
  have hl : (schL c (L.take k)).length = k := by rw [schL_len, List.length_take, Nat.min_eq_left (by omega)]
  have hd : L.drop k = x :: L.drop (k + 1) := by
    rw [List.drop_eq_getElem_cons hk, (List.getElem?_eq_some_iff.1 h).2]
  constructor
  · rw [List.getElem?_append_right (by omega), hl, Nat.sub_self, hd]; rfl
  · rw [List.set_append_right _ _ (by omega), hl, Nat.sub_self, hd, List.set_cons_zero, take_snoc h, schL_snoc, hr, List.append_assoc]; rfl
def heldK (L : List En) (k : Nat) : Nat := ((L.take k).filter En.held).length
theorem heldK_succ {L : List En} {k : Nat} {x : En} (h : L[k]? = some x) : heldK L (k + 1) = heldK L k + if x.held then 1 else 0 := by
  unfold heldK
  rw [take_snoc h, List.filter_append]
  cases hx : x.held <;> simp [hx]
def slotsL (slots : Int) (L : List En) : Int := slots - (L.filter En.held).length

/-- the queue, its row at g -/
structure QAt (B qb g cap : Nat) (slots : Int) (L : List En) (n : Nat) (w : World) : Prop where
  q : Qp B qb slots L w
  len : L.length = n
  c1 : w.cell? ⟨qb, 1, none⟩ = some (.slice (some ⟨g, 0, none⟩) n cap)
theorem Qp.at {B qb : Nat} {slots : Int} {L : List En} {w : World} {n : Nat} (h : Qp B qb slots L w) (hn : L.length = n) (h0 : 0 < n) : ∃ g cap, QAt B qb g cap slots L n w := by
  obtain ⟨v, h1, h2⟩ := h.row
  rw [hn] at h2
  rcases h2.2 with ⟨_, hz⟩ | ⟨g, cap, cur, e, _⟩
  · omega
  · exact ⟨g, cap, h, hn, by rw [h1, e]⟩
namespace QAt
variable {B qb g cap n : Nat} {slots : Int} {L : List En} {w w' : World}
theorem own (h : QAt B qb g cap slots L n w) : w.ownsRow B 60 9 (.slice (some ⟨g, 0, none⟩) n cap) n (eE.flat L) := by
  obtain ⟨v, h1, h2⟩ := h.q.row
  rw [h.c1] at h1
  cases h1
  rw [h.len] at h2
  exact h2
theorem ty (h : QAt B qb g cap slots L n w) : TyB w g 60 := owns_ty h.own rfl
theorem base (h : QAt B qb g cap slots L n w) : B ≤ g := (h.own.lt g rfl).1
theorem caps (h : QAt B qb g cap slots L n w) : n ≤ cap ∧ cap ≤ 9223372036854775807 := by
  rcases h.own.2 with ⟨h0, _⟩ | ⟨g', cap', cur, he, _, _, h1, h2, _⟩
  · cases h0
  · cases he; unfold maxLen at h2; exact ⟨h1, h2⟩
theorem ne (h : QAt B qb g cap slots L n w) : g ≠ qb := h.ty.ne h.q.ty (by decide)
theorem cell (h : QAt B qb g cap slots L n w) {i j : Nat} {x : En} {v : Value} (hi : L[i]? = some x) (hj : (ec x).toList[j]? = some v) : w.cell? ⟨g, i * 9 + j, none⟩ = some v := by
  have hjl : j < 9 := (List.getElem?_eq_some_iff.1 hj).1
  have hil : i < n := by rw [← h.len]; exact (List.getElem?_eq_some_iff.1 hi).1
  rw [h.own.cellAt _ (by omega)]
  exact (flat_get (E := eE) L i x j hi hjl).trans hj
theorem entry (h : QAt B qb g cap slots L n w) {i : Nat} {x : En} (hi : L[i]? = some x) :
    w.cell? ⟨g, i * 9, none⟩ = some (.int .i64 x.j.vol) ∧ w.cell? ⟨g, i * 9 + 1, none⟩ = some (.int .i64 x.j.frag) ∧ w.cell? ⟨g, i * 9 + 2, none⟩ = some (.int .i64 x.j.cls) ∧ w.cell? ⟨g, i * 9 + 3, none⟩ = some (.bool false) ∧ w.cell? ⟨g, i * 9 + 4, none⟩ = some x.num ∧ w.cell? ⟨g, i * 9 + 5, none⟩ = some x.den ∧ w.cell? ⟨g, i * 9 + 6, none⟩ = some (.int .i64 x.j.rem) ∧ w.cell? ⟨g, i * 9 + 7, none⟩ = some (.bool x.run) ∧ w.cell? ⟨g, i * 9 + 8, none⟩ = some (.bool x.held) :=
  ⟨h.cell (j := 0) hi rfl, h.cell (j := 1) hi rfl, h.cell (j := 2) hi rfl, h.cell (j := 3) hi rfl, h.cell (j := 4) hi rfl, h.cell (j := 5) hi rfl, h.cell (j := 6) hi rfl, h.cell (j := 7) hi rfl, h.cell (j := 8) hi rfl⟩
theorem cold (h : QAt B qb g cap slots L n w) (o : Nat) : w.frozen? ⟨g, o, none⟩ = false := h.own.frozenAt o
theorem keep (h : QAt B qb g cap slots L n w) (hb : Below w.heap.size w w') : QAt B qb g cap slots L n w' := ⟨h.q.keep hb, h.len, (hb.cell (p := ⟨qb, 1, none⟩) h.q.ty.lt).trans h.c1⟩
theorem grown {u : Value} {B' e s m : Nat} {xs : List Value} (h : QAt B qb g cap slots L n w) (ho : w.ownsRow B' e s u m xs) (h5 : e ≠ 55) (h6 : e ≠ 60) (h7 : e ≠ 76) (hg : w.grownBy w' u.ownBlock) : QAt B qb g cap slots L n w' :=
  ⟨h.q.grown ho h5 h6 h7 hg, h.len, hg.cell h.c1 fun e => h5 ((owns_ty ho e.symm).uniq h.q.ty)⟩
theorem mark (h : QAt B qb g cap slots L n w) {i j : Nat} {x x' : En} {b : Bool} (hx : L[i]? = some x) (hj : j < 9) (hf : eE.f x' = (eE.f x).set j (.bool b)) (hjj : x'.j = x.j) (hnum : x'.num = x.num) (hden : x'.den = x.den) :
    QAt B qb g cap slots (L.set i x') n (w.setCell ⟨g, i * 9 + j, none⟩ (.bool b)) :=
  ⟨h.q.mark h.c1 h.len hx hj hf hjj hnum hden, by rw [List.length_set]; exact h.len, (World.cell?_setCell_other _ _ _ _ (by simp [h.ne])).trans h.c1⟩
theorem setRun (h : QAt B qb g cap slots L n w) {i : Nat} {x : En} {b : Bool} (hx : L[i]? = some x) : QAt B qb g cap slots (L.set i (setRun b x)) n (w.setCell ⟨g, i * 9 + 7, none⟩ (.bool b)) :=
  h.mark hx (by decide) rfl rfl rfl rfl
theorem setHeld (h : QAt B qb g cap slots L n w) {i : Nat} {x : En} (hx : L[i]? = some x) : QAt B qb g cap slots (L.set i { x with held := true }) n (w.setCell ⟨g, i * 9 + 8, none⟩ (.bool true)) :=
  h.mark hx (by decide) rfl rfl rfl rfl
end QAt

/-- two rows of keys, both newer than B0 -/
structure Two (B0 : Nat) (w0 w : World) (v1 v2 : Value) (S P : List Ky) : Prop where
  o1 : Ow eK 39 w0 w v1 S
  o2 : Ow eK 39 w0 w v2 P
  n1 : ∀ k, v1.ownBlock = some k → B0 ≤ k
  n2 : ∀ k, v2.ownBlock = some k → B0 ≤ k
  ne : ∀ k, v1.ownBlock = some k → v2.ownBlock ≠ some k
  sz : B0 ≤ w.heap.size
namespace Two
variable {B0 : Nat} {w0 w w' w3 : World} {v1 v2 : Value} {S P : List Ky}
theorem swap (h : Two B0 w0 w v1 v2 S P) : Two B0 w0 w v2 v1 P S := ⟨h.o2, h.o1, h.n2, h.n1, fun k h2 h1 => h.ne k h1 h2, h.sz⟩
theorem start {w0 w : World} (hb : Below w0.heap.size w0 w) (hB : B0 ≤ w.heap.size) : Two B0 w0 w (.slice none 0 0) (.slice none 0 0) [] [] :=
  ⟨Ow.begin hb, Ow.begin hb, (fun k hk => by cases hk), (fun k hk => by cases hk), (fun k hk => by cases hk), hB⟩
theorem keep (h : Two B0 w0 w v1 v2 S P) (hb : Below w.heap.size w w') : Two B0 w0 w' v1 v2 S P := ⟨h.o1.grow hb, h.o2.grow hb, h.n1, h.n2, h.ne, Nat.le_trans h.sz hb.size⟩
theorem push (h : Two B0 w0 w v1 v2 S P) {v1' : Value} {S' : List Ky} (ho : Ow eK 39 w0 w3 v1' S') (hg : Grew w w3 v1 v1') : Two B0 w0 w3 v1' v2 S' P := by
  refine ⟨ho, ⟨ho.below, owns_same h.o2.row fun k hk => hg.by_.block k (h.o2.row.lt k hk).2 fun e => h.ne k e.symm hk, fun t ht => by cases ht⟩, fun k hk => ?_, h.n2, fun k hk hk2 => ?_, Nat.le_trans h.sz hg.by_.size⟩
  · rcases hg.at_ with e | e
    · rw [e] at hk; exact h.n1 k hk
    · rw [e] at hk; cases hk; exact h.sz
  · rcases hg.at_ with e | e
    · rw [e] at hk; exact h.ne k hk hk2
    · rw [e] at hk; cases hk
      have := (h.o2.row.lt _ hk2).2
      omega
theorem store (h : Two B0 w0 w v1 v2 S P) {g : Nat} (hg : TyB w g 60) (hB : w0.heap.size ≤ g) (i : Nat) (u : Value) : Two B0 w0 (w.setCell ⟨g, i, none⟩ u) v1 v2 S P := by
  have key : ∀ (v : Value) (L : List Ky), Ow eK 39 w0 w v L → Ow eK 39 w0 (w.setCell ⟨g, i, none⟩ u) v L := fun v L h =>
    ⟨h.below.setCell (p := ⟨g, i, none⟩) hB u, owns_same h.row fun k hk => Below.heap_setCell _ _ _ _ fun e => by
      have e : k = g := e
      subst e
      exact absurd ((owns_ty h.row hk).uniq hg) (by decide), fun t ht => by cases ht⟩
  exact ⟨key _ _ h.o1, key _ _ h.o2, h.n1, h.n2, h.ne, by simpa using h.sz⟩
end Two
end Go.Proofs.Ytgnmolleaengaaa
