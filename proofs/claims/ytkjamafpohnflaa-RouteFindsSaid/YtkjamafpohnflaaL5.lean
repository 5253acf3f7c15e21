/- The walk of RouteFinds. -/
import Derived.Test.YtkjamafpohnflaaX3
set_option linter.unusedVariables false
set_option linter.unusedSimpArgs false
set_option linter.unnecessarySimpa false
namespace Go.Proofs.Ytkjamafpohnflaa
open Go Go.RowKit Go.Mem Go.Deep

theorem ints_set (l : List Int) (i : Nat) (z : Int) : ints (l.set i z) = (ints l).set i (.int .i64 z) := by
  simp [ints, List.map_set]
/-- an own row with one number turned -/
theorem owns_set {w : World} {B n cap g i : Nat} {l : List Int} (h : w.ownsRow B 3 1 (.slice (some ⟨g, 0, none⟩) n cap) n (ints l)) (hn : l.length = n) (hi : i < n) (z : Int) : (w.setCell ⟨g, i, none⟩ (.int .i64 z)).ownsRow B 3 1 (.slice (some ⟨g, 0, none⟩) n cap) n (ints (l.set i z)) := by
  refine ⟨by rw [len_ints, List.length_set, hn]; omega, ?_⟩
  rcases h.2 with ⟨h0, _⟩ | ⟨g', cap', cur, hv, hB, hg, h1, h2, h3, h4⟩
  · cases h0
  · cases hv
    refine .inr ⟨g, cap, cur.setIfInBounds i (.int .i64 z), rfl, hB, ?_, h1, h2, by simpa using h3, ?_⟩
    · simp [World.setCell, Array.getElem?_modify, hg]
    · rw [Array.toList_setIfInBounds, ints_set, ← h4, List.take_set]
theorem owns_cell {w : World} {B n cap i : Nat} {p : Option Addr} {l : List Int} (h : w.ownsRow B 3 1 (.slice p n cap) n (ints l)) (hn : l.length = n) (hi : i < n) : ∃ g, p = some ⟨g, 0, none⟩ ∧ B ≤ g ∧ g < w.heap.size ∧ w.cell? ⟨g, i, none⟩ = some (.int .i64 (l.getD i 0)) ∧ ∀ j, w.frozen? ⟨g, j, none⟩ = false := by
  rcases h.2 with ⟨h0, h1⟩ | ⟨g, cap', cur, hv, hB, hg, h1, h2, h3, h4⟩
  · omega
  · cases hv
    refine ⟨g, rfl, hB, (Array.getElem?_eq_some_iff.1 hg).1, ?_, fun j => by simp [World.frozen?, hg]⟩
    have h5 : (ints l)[i]? = cur.toList[i]? := by rw [← h4, List.getElem?_take, if_pos (by omega)]
    simp only [World.cell?, hg]
    have h6 : cur.toList[i]? = cur[i]? := by simp
    show cur[i]? = _
    have hil : i < l.length := by omega
    rw [← h6, ← h5]
    simp [ints, hil]
theorem prs_set (l : List (Int × Int)) : ∀ (i : Nat) (x y : Int), i < l.length → prs (l.set i (x, y)) = ((prs l).set (i * 2) (.int .i64 x)).set (i * 2 + 1) (.int .i64 y) := by
  induction l with
  | nil => intro i x y h; simp at h
  | cons a l ih =>
    intro i x y h
    cases i with
    | zero => rfl
    | succ i =>
      have e1 : prs (a :: l) = .int .i64 a.1 :: .int .i64 a.2 :: prs l := rfl
      have e2 : prs ((a :: l).set (i + 1) (x, y)) = .int .i64 a.1 :: .int .i64 a.2 :: prs (l.set i (x, y)) := rfl
      rw [e1, e2, ih i x y (by simpa using h), show (i + 1) * 2 = i * 2 + 1 + 1 by omega]
      rfl
theorem owns_set2 {w : World} {B n cap g i : Nat} {l : List (Int × Int)} (h : w.ownsRow B 47 2 (.slice (some ⟨g, 0, none⟩) n cap) n (prs l)) (hn : l.length = n) (hi : i < n) (x y : Int) : ((w.setCell ⟨g, i * 2, none⟩ (.int .i64 x)).setCell ⟨g, i * 2 + 1, none⟩ (.int .i64 y)).ownsRow B 47 2 (.slice (some ⟨g, 0, none⟩) n cap) n (prs (l.set i (x, y))) := by
  refine ⟨by rw [len_prs, List.length_set, hn], ?_⟩
  rcases h.2 with ⟨h0, _⟩ | ⟨g', cap', cur, hv, hB, hg, h1, h2, h3, h4⟩
  · cases h0
  · cases hv
    refine .inr ⟨g, cap, (cur.setIfInBounds (i * 2) (.int .i64 x)).setIfInBounds (i * 2 + 1) (.int .i64 y), rfl, hB, ?_, h1, h2, by simpa using h3, ?_⟩
    · simp [World.setCell, Array.getElem?_modify, hg]
    · rw [Array.toList_setIfInBounds, Array.toList_setIfInBounds, prs_set l i x y (by omega), ← h4, List.take_set, List.take_set]
theorem owns_cell2 {w : World} {B n cap i : Nat} {p : Option Addr} {l : List (Int × Int)} (h : w.ownsRow B 47 2 (.slice p n cap) n (prs l)) (hn : l.length = n) (hi : i < n) : ∃ g, p = some ⟨g, 0, none⟩ ∧ B ≤ g ∧ g < w.heap.size ∧ w.cell? ⟨g, i * 2, none⟩ = some (.int .i64 (l.getD i (0, 0)).1) ∧ w.cell? ⟨g, i * 2 + 1, none⟩ = some (.int .i64 (l.getD i (0, 0)).2) ∧ ∀ j, w.frozen? ⟨g, j, none⟩ = false := by
  rcases h.2 with ⟨h0, h1⟩ | ⟨g, cap', cur, hv, hB, hg, h1, h2, h3, h4⟩
  · omega
  · cases hv
    have h5 : ∀ q, q < n * 2 → (prs l)[q]? = cur.toList[q]? := fun q hq => by rw [← h4, List.getElem?_take, if_pos hq]
    have h6 : ∀ q : Nat, cur.toList[q]? = cur[q]? := fun q => by simp
    have hp := prs_get l i (by omega)
    refine ⟨g, rfl, hB, (Array.getElem?_eq_some_iff.1 hg).1, ?_, ?_, fun j => by simp [World.frozen?, hg]⟩
    · simp only [World.cell?, hg]
      show cur[i * 2]? = _
      rw [← h6, ← h5 _ (by omega), hp.1]
    · simp only [World.cell?, hg]
      show cur[i * 2 + 1]? = _
      rw [← h6, ← h5 _ (by omega), hp.2]
theorem owns_only {w w' : World} {S : List Nat} {B e s n : Nat} {v : Value} {xs : List Value} (h : w.ownsRow B e s v n xs) (ho : Only S w w') (hs : ∀ k, v.ownBlock = some k → k ∉ S) : w'.ownsRow B e s v n xs := owns_same h fun k hk => ho.block k (h.lt k hk).2 (hs k hk)

/-- what the law's comparisons need -/
structure Fd (tv uv pv : Value) (T U : List Int) (P : List (Int × Int)) (w : World) : Prop where
  t : IntsAt w tv T
  u : IntsAt w uv U
  p : PairsAt w pv P
theorem Fd.keep {tv uv pv : Value} {T U : List Int} {P : List (Int × Int)} {w w' : World} (h : Fd tv uv pv T U P w) (hb : Below w.heap.size w w') : Fd tv uv pv T U P w' := ⟨h.t.keep hb, h.u.keep hb, h.p.keep hb⟩

/-- the three slices while numbers are taken into range -/
structure Nr (w : World) (B1 B2 : Nat) (tv uv pv : Value) (n m m2 : Nat) (T U : List Int) (P : List (Int × Int)) (wr : World) : Prop where
  u : wr.ownsRow w.heap.size 3 1 uv m (ints U)
  ub : ∀ k, uv.ownBlock = some k → k < B1
  p : wr.ownsRow B1 47 2 pv m2 (prs P)
  pb : ∀ k, pv.ownBlock = some k → k < B2
  t : wr.ownsRow B2 3 1 tv n (ints T)
  below : Below w.heap.size w wr
  le : w.heap.size ≤ B1 ∧ B1 ≤ B2
theorem Nr.setU {w wr : World} {B1 B2 n m m2 cap g i : Nat} {tv pv : Value} {T U : List Int} {P : List (Int × Int)} (h : Nr w B1 B2 tv (.slice (some ⟨g, 0, none⟩) m cap) pv n m m2 T U P wr) (hU : U.length = m) (hi : i < m) (z : Int) : Nr w B1 B2 tv (.slice (some ⟨g, 0, none⟩) m cap) pv n m m2 T (U.set i z) P (wr.setCell ⟨g, i, none⟩ (.int .i64 z)) := by
  have ho := (Only.refl [g] wr).setCell (.inl (List.mem_singleton.2 rfl)) i (.int .i64 z)
  have hg1 := h.ub g rfl
  have hg0 := (h.u.lt g rfl).1
  have hl := h.le
  exact ⟨owns_set h.u hU hi z, h.ub, owns_only h.p ho (fun k hk => by have := (h.p.lt k hk).1; simp; omega), h.pb, owns_only h.t ho (fun k hk => by have := (h.t.lt k hk).1; simp; omega), h.below.setCell (p := ⟨g, i, none⟩) hg0 _, h.le⟩
theorem Nr.setP {w wr : World} {B1 B2 n m m2 cap g i : Nat} {tv uv : Value} {T U : List Int} {P : List (Int × Int)} (h : Nr w B1 B2 tv uv (.slice (some ⟨g, 0, none⟩) m2 cap) n m m2 T U P wr) (hP : P.length = m2) (hi : i < m2) (x y : Int) : Nr w B1 B2 tv uv (.slice (some ⟨g, 0, none⟩) m2 cap) n m m2 T U (P.set i (x, y)) ((wr.setCell ⟨g, i * 2, none⟩ (.int .i64 x)).setCell ⟨g, i * 2 + 1, none⟩ (.int .i64 y)) := by
  have ho := ((Only.refl [g] wr).setCell (.inl (List.mem_singleton.2 rfl)) (i * 2) (.int .i64 x)).setCell (.inl (List.mem_singleton.2 rfl)) (i * 2 + 1) (.int .i64 y)
  have hg1 := h.pb g rfl
  have hg0 := (h.p.lt g rfl).1
  have hl := h.le
  exact ⟨owns_only h.u ho (fun k hk => by have := h.ub k hk; simp; omega), h.ub, owns_set2 h.p hP hi x y, h.pb, owns_only h.t ho (fun k hk => by have := (h.t.lt k hk).1; simp; omega), (h.below.setCell (p := ⟨g, i * 2, none⟩) (by show w.heap.size ≤ g; omega) _).setCell (p := ⟨g, i * 2 + 1, none⟩) (by show w.heap.size ≤ g; omega) _, h.le⟩
theorem Nr.call {w wr w' : World} {B1 B2 n m m2 : Nat} {tv uv pv : Value} {T U : List Int} {P : List (Int × Int)} (h : Nr w B1 B2 tv uv pv n m m2 T U P wr) (hb : Below wr.heap.size wr w') : Nr w B1 B2 tv uv pv n m m2 T U P w' :=
  ⟨owns_below h.u hb, h.ub, owns_below h.p hb, h.pb, owns_below h.t hb, h.below.trans (hb.mono h.below.size), h.le⟩
end Go.Proofs.Ytkjamafpohnflaa
