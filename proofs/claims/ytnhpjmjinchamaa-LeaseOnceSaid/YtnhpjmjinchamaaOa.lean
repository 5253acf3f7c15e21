/- LeaseOnce: the state, what the calls do to the generations, two leases of the list differ. -/
import Derived.Test.YtnhpjmjinchamaaLj
import Derived.Test.YtnhpjmjinchamaaTj
import Derived.Test.YtnhpjmjinchamaaFr
set_option linter.unusedVariables false
set_option linter.unusedSimpArgs false
set_option linter.unnecessarySimpa false
namespace Go.Proofs.Ytnhpjmjinchamaa
open Go Go.RowKit

/-- the generations counted by the law -/
abbrev garr (g : Pk → Int) : Array Value := #[.int .i64 (g (0, 0)), .int .i64 (g (0, 1)), .int .i64 (g (0, 2)), .int .i64 (g (1, 0)), .int .i64 (g (1, 1)), .int .i64 (g (1, 2)), .int .i64 (g (2, 0)), .int .i64 (g (2, 1)), .int .i64 (g (2, 2))]
theorem three_nat {v : Nat} (h : v < 3) : v = 0 ∨ v = 1 ∨ v = 2 := by omega
theorem garr_at (g : Pk → Int) {v f : Nat} (hv : v < 3) (hf : f < 3) : (garr g)[v * 3 + f]? = some (.int .i64 (g ((v : Int), (f : Int)))) := by
  rcases three_nat hv with rfl | rfl | rfl <;> rcases three_nat hf with rfl | rfl | rfl <;> rfl
theorem garr_set (g : Pk → Int) {v f : Nat} (hv : v < 3) (hf : f < 3) (n : Int) : (garr g).setIfInBounds (v * 3 + f) (.int .i64 n) = garr (upd g ((v : Int), (f : Int)) n) := by
  rcases three_nat hv with rfl | rfl | rfl <;> rcases three_nat hf with rfl | rfl | rfl <;> simp [garr, upd]

structure On (w : World) (i : Ids) (gb N : Nat) (T : Tb) (R : Rf) (G : Pk → Int) (wr : World) : Prop where
  tb : TbAt wr i T
  rel : Rel N T R
  below : Below w.heap.size w wr
  own : ∀ s ∈ i.all, w.heap.size ≤ s
  giv : Holds wr gb (garr G)
  gnew : w.heap.size ≤ gb
  gap : ∀ s ∈ i.all, s < gb
section
variable {w : World} {i : Ids} {gb N : Nat} {T T' : Tb} {R R' : Rf} {G : Pk → Int} {wr w' : World} {bo : Nat} {c : Array Value} {v : Value} {e : Ending}
theorem On.call (h : On w i gb N T R G wr) (hb : Below wr.heap.size wr w') : On w i gb N T R G w' :=
  ⟨h.tb.below hb, h.rel, h.below.trans (hb.mono h.below.size), h.own, h.giv.keep hb, h.gnew, h.gap⟩
theorem On.start {w1 : World} (ht : TbAt w1 i noT) (hs : ∀ s ∈ i.all, w.heap.size ≤ s) (hb : Below w.heap.size w w1) : On w i w1.heap.size 0 noT noR (fun _ => 0) (w1.alloc (.cells (garr fun _ => 0) 56)) :=
  ⟨ht.below (below_alloc _ _), Rel.start, hb.alloc hb.size _, hs, Holds.new _ _ _, hb.size, ht.lt⟩
/-- .. and the box of a call -/
structure Ob (w : World) (i : Ids) (gb N : Nat) (T : Tb) (R : Rf) (G : Pk → Int) (bo : Nat) (c : Array Value) (wr : World) : Prop where
  st : On w i gb N T R G wr
  box : Holds wr bo c
  old : ∀ s ∈ gb :: i.all, s < bo
theorem On.push (h : On w i gb N T R G wr) (c : Array Value) (t : TypeId) : Ob w i gb N T R G wr.heap.size c (wr.alloc (.cells c t)) :=
  ⟨h.call (below_alloc _ _), Holds.new _ _ _, fun s hs => by
    rcases List.mem_cons.1 hs with rfl | hs
    · exact h.giv.lt
    · exact h.tb.lt s hs⟩
theorem Ob.call (h : Ob w i gb N T R G bo c wr) (hb : Below wr.heap.size wr w') : Ob w i gb N T R G bo c w' := ⟨h.st.call hb, h.box.keep hb, h.old⟩
/-- a call of the table -/
theorem Ob.turn (h : Ob w i gb N T R G bo c wr) (ho : Out wr i T' v e w') (hr : Rel (N + 1) T' R') : Ob w i gb (N + 1) T' R' G bo c w' :=
  ⟨⟨ho.2.1, hr, h.st.below.trans (ho.2.2.below h.st.own h.st.below.size), h.st.own, h.st.giv.only ho.2.2 (fun hm => by have := h.st.gap gb hm; omega), h.st.gnew, h.st.gap⟩, h.box.only ho.2.2 (fun hm => by have := h.old bo (List.mem_cons_of_mem _ hm); omega), h.old⟩
theorem Ob.next (h : Ob w i gb N T R G bo c wr) : Ob w i gb (N + 1) T R G bo c wr := ⟨⟨h.st.tb, h.st.rel.mono (by omega), h.st.below, h.st.own, h.st.giv, h.st.gnew, h.st.gap⟩, h.box, h.old⟩
/-- one more generation is counted -/
theorem Ob.count (h : Ob w i gb N T R G bo c wr) {v f : Nat} (hv : v < 3) (hf : f < 3) (n : Int) : Ob w i gb N T R (upd G ((v : Int), (f : Int)) n) bo c (wr.setCell ⟨gb, v * 3 + f, none⟩ (.int .i64 n)) := by
  have ho : Only [gb] wr (wr.setCell ⟨gb, v * 3 + f, none⟩ (.int .i64 n)) := (Only.refl _ _).setCell (.inl (by simp)) _ _
  have hn : ∀ s ∈ i.all, s ∉ [gb] := fun s hs hm => by have := h.st.gap s hs; have := List.mem_singleton.1 hm; omega
  refine ⟨⟨h.st.tb.keep ho hn, h.st.rel, h.st.below.setCell (p := ⟨gb, v * 3 + f, none⟩) h.st.gnew _, h.st.own, ?_, h.st.gnew, h.st.gap⟩, h.box.other (by have := h.old gb (by simp); omega) _ _, h.old⟩
  rw [← garr_set G hv hf]
  exact h.st.giv.set _ _
theorem Ob.giv_at (h : Ob w i gb N T R G bo c wr) {v f : Nat} (hv : v < 3) (hf : f < 3) {n : Int} (hn : G ((v : Int), (f : Int)) = n) : wr.cell? ⟨gb, v * 3 + f, none⟩ = some (.int .i64 n) ∧ wr.frozen? ⟨gb, v * 3 + f, none⟩ = false :=
  ⟨by rw [← hn]; exact h.st.giv.cell _ _ (garr_at G hv hf), h.st.giv.thaw _⟩
end

/-- what a call does to the generations -/
def Gen (T T' : Tb) (v f g e : Int) : Prop := (e ≠ 0 ∧ T'.g = T.g) ∨ (e = 0 ∧ g = T.g (v, f) + 1 ∧ T'.g = upd T.g (v, f) (T.g (v, f) + 1))
theorem gen_place {T T' : Tb} {v f d x a b : Int} (h : placeF T v f d x = ((a, b), T')) : Gen T T' v f a b := by
  unfold placeF at h
  split at h
  · split at h
    · cases h; exact .inl ⟨by simp, rfl⟩
    · simp only [addT] at h
      cases h
      exact .inr ⟨rfl, rfl, rfl⟩
  · cases h; exact .inl ⟨by simp, rfl⟩
theorem gen_grant {T T' : Tb} {v f d x a b : Int} (h : grantF T v f d x = ((a, b), T')) : Gen T T' v f a b := by
  unfold grantF at h
  split at h
  · split at h
    · cases h; exact .inl ⟨by simp, rfl⟩
    · simp only [addT] at h
      cases h
      exact .inr ⟨rfl, rfl, rfl⟩
  · cases h; exact .inl ⟨by simp, rfl⟩
theorem end_g (T : Tb) (v f : Int) : (endF T v f).2.g = T.g := by
  unfold endF
  split
  · split <;> rfl
  · rfl
theorem commit_g (T : Tb) (v f : Int) : (commitF T v f).2.g = T.g := by
  unfold commitF
  split
  · exact end_g T v f
  · exact end_g T v f
theorem gen_end {T T' : Tb} {v f b : Int} {l : Ls} (h : endF T v f = ((l, b), T')) : Gen T T' v f 0 110 := .inl ⟨by simp, by have := end_g T v f; rw [h] at this; exact this⟩
theorem gen_commit {T T' : Tb} {v f b : Int} {l : Ls} (h : commitF T v f = ((l, b), T')) : Gen T T' v f 0 110 := .inl ⟨by simp, by have := commit_g T v f; rw [h] at this; exact this⟩

theorem two_differ {N : Nat} {T : Tb} {R : Rf} (h : Rel N T R) {a b : Nat} {x y : Ls} (ha : R.L[a]? = some x) (hb : R.L[b]? = some y) (hab : b < a) :
    (x.drive == y.drive && x.ext == y.ext) = false ∧ (x.vol == y.vol && x.frag == y.frag && x.mov == y.mov) = false := by
  have hlt : a < R.L.length := (List.getElem?_eq_some_iff.1 ha).1
  have hs : beforeB y x = true := by
    have := List.pairwise_iff_getElem.1 h.srt b a (by omega) hlt hab
    rwa [(List.getElem?_eq_some_iff.1 ha).2, (List.getElem?_eq_some_iff.1 hb).2] at this
  refine ⟨Bool.eq_false_iff.2 fun e => ?_, Bool.eq_false_iff.2 fun e => ?_⟩
  · simp at e
    have h1 := (h.uu x.drive x.ext x).2 ⟨List.mem_of_getElem? ha, rfl, rfl⟩
    have h2 := (h.uu x.drive x.ext y).2 ⟨List.mem_of_getElem? hb, e.1.symm, e.2.symm⟩
    rw [h1] at h2
    cases h2
    rw [before_self] at hs
    cases hs
  · simp at e
    exact before_not hs e.1.1.symm e.1.2.symm e.2.symm
/-- the ways in which the test fails -/
theorem six_of {q1 q2 q3 q4 q5 : Bool} (h1 : (q1 && q2) = false) (h2 : (q3 && q4 && q5) = false) :
    (q1 = false ∨ q1 = true ∧ q2 = false) ∧ (q3 = false ∨ (q3 = true ∧ q4 = false) ∨ (q3 = true ∧ q4 = true ∧ q5 = false)) := by
  cases q1 <;> cases q2 <;> cases q3 <;> cases q4 <;> cases q5 <;> simp_all

/-- the cells of a lease of a list that was read -/
theorem RdL.cells {w : World} {a : Option Addr} {n cap : Nat} {L : List Ls} (h : RdL w (.slice a n cap) L) {i : Nat} {l : Ls} (hi : L[i]? = some l) :
    ∃ b off, a = some ⟨b, off, none⟩ ∧ ∀ wx, Below w.heap.size w wx → wx.cell? ⟨b, off + i * 6, none⟩ = some (.int .i64 l.vol) ∧ wx.cell? ⟨b, off + i * 6 + 1, none⟩ = some (.int .i64 l.frag) ∧ wx.cell? ⟨b, off + i * 6 + 2, none⟩ = some (.int .i64 l.drive) ∧ wx.cell? ⟨b, off + i * 6 + 3, none⟩ = some (.int .i64 l.ext) ∧ wx.cell? ⟨b, off + i * 6 + 4, none⟩ = some (.int .i64 l.gen) ∧ wx.cell? ⟨b, off + i * 6 + 5, none⟩ = some (.bool l.mov) := by
  obtain ⟨b, off, rfl, hb, hc⟩ := h.at hi
  refine ⟨b, off, rfl, fun wx hw => ⟨?_, ?_, ?_, ?_, ?_, ?_⟩⟩
  · exact (hw.cell (p := ⟨b, off + i * 6, none⟩) hb).trans (hc 0 _ rfl)
  · exact (hw.cell (p := ⟨b, off + i * 6 + 1, none⟩) hb).trans (hc 1 _ rfl)
  · exact (hw.cell (p := ⟨b, off + i * 6 + 2, none⟩) hb).trans (hc 2 _ rfl)
  · exact (hw.cell (p := ⟨b, off + i * 6 + 3, none⟩) hb).trans (hc 3 _ rfl)
  · exact (hw.cell (p := ⟨b, off + i * 6 + 4, none⟩) hb).trans (hc 4 _ rfl)
  · exact (hw.cell (p := ⟨b, off + i * 6 + 5, none⟩) hb).trans (hc 5 _ rfl)
end Go.Proofs.Ytnhpjmjinchamaa
