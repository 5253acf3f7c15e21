/- A drawn region in which two results are laid into blocks of their own. -/
import Derived.Test.YtpkgcklnknbbcaaMm
set_option linter.unusedVariables false
set_option linter.unusedSimpArgs false
set_option linter.unnecessarySimpa false
namespace Go.Proofs.Ytpkgcklnknbbcaa
open Go Go.RowKit

section
variable {P : Program} {ops : Array Oper} {md : Region.Mode} {S : World → Prop}

def setRange (listed : Array Bool) (k : Nat) : Nat → Array Bool
  | 0 => listed
  | f + 1 => setRange (listed.setIfInBounds k true) (k + 1) f
def lexPre (md : Region.Mode) (ops : Array Oper) : Nat → Nat → Array Bool → Bool
  | 0, _, _ => true
  | f + 1, k, listed => (Region.ready md ops listed).contains k && Region.free md ops listed k && lexPre md ops f (k + 1) (listed.setIfInBounds k true)

theorem lAny_pre {Q : Act → World → Prop} {T : World → Prop} (g : Nat) (hsel : Region.noSelect ops = true) : ∀ (l : List Oper) (k : Nat) (listed : Array Bool) (a : Act), (∀ j, j < l.length → l[j]? = ops[k + j]?) →
    lexPre md ops l.length k listed = true → bRow P ops S (fun a => lAny P md ops S Q g (setRange listed k l.length) T a) l a → lAny P md ops S Q (l.length + g) listed T a
  | [], k, listed, a, hl, hB, h => by simpa [setRange, bRow] using h
  | o :: l, k, listed, a, hl, hB, h => by
    have h0 : ops[k]? = some o := by simpa using (hl 0 (by simp)).symm
    simp only [List.length_cons, lexPre, Bool.and_eq_true] at hB
    obtain ⟨⟨hr, hf⟩, hB'⟩ := hB
    have hr' : k ∈ Region.ready md ops listed := by simpa using hr
    obtain ⟨v, hy, hK⟩ := h
    have IH := lAny_pre (T := T) g hsel l (k + 1) (listed.setIfInBounds k true) (a.put o.dst v) (fun j hj => by have := hl (j + 1) (by simp; omega); simpa [Nat.add_assoc, Nat.add_comm 1 j] using this) hB' hK
    have := lAny_first h0 (Region.noSelect_spec hsel) (l.length + g) listed T a (Region.free_spec h0 hf) hr' hy IH
    rw [show (o :: l).length + g = l.length + g + 1 by simp; omega]
    exact this

theorem wp_region_late2 {id : Nat} {Q : Exit → Act → World → Prop} {a : Act} {w : World} {l : List Oper} (S : World → Prop) (n g : Nat) (hm : P.follows .mixedOrders = true) (hsel : Region.noSelect l.toArray = true) (hng : n + g = l.length)
    (hB : lexPre .any l.toArray n 0 (Array.replicate l.toArray.size false) = true)
    (hSt : Stable S) (hS : S w) (h : bRow P l.toArray S (fun a' => lAny P .any l.toArray S (fun a w => Q .normal a w) g (setRange (Array.replicate l.toArray.size false) 0 n) S a') (l.take n) a) : (Code.region id l.toArray true).wp P Q a w := by
  have htl : (l.take n).length = n := by simp; omega
  have H := lAny_pre (md := .any) (Q := fun a w => Q .normal a w) (T := S) g hsel (l.take n) 0 (Array.replicate l.toArray.size false) a (fun j hj => by
    have hj' : j < n := by rw [htl] at hj; exact hj
    simp [hj']) (by rw [htl]; exact hB) (by rw [htl]; exact h)
  refine wp_region_any hm ?_
  have hS1 : S { w with drawn := w.drawn + 1 } := hSt _ _ hS (Below.refl _ _).drew
  have := wpAny_of_lAny (Q' := Q) (fun _ _ h => h) _ _ _ _ _ hSt (fun _ h => h) hS1 H
  rw [htl, show n + g = l.toArray.size by simp; omega] at this
  exact this

theorem lAny_step {Q : Act → World → Prop} {T : World → Prop} {fuel : Nat} {listed : Array Bool} {a : Act} (rs : List Nat) (hr : Region.ready md ops listed = rs) (hne : rs ≠ [])
    (h : ∀ i ∈ rs, lOp P ops S T i (lAny P md ops S Q fuel (listed.setIfInBounds i true)) a) : lAny P md ops S Q (fuel + 1) listed T a :=
  ⟨fun h0 => absurd (hr.symm.trans h0) hne, fun i hi => h i (by rw [← hr]; exact hi)⟩
theorem lAny_end {Q : Act → World → Prop} {T : World → Prop} {listed : Array Bool} {a : Act} (hr : Region.ready md ops listed = []) (h : ∀ w, T w → Q a w) : lAny P md ops S Q 0 listed T a := ⟨hr, h⟩

/-- two blocks of the region's own -/
def With2 (S : World → Prop) (B b : Nat) (c : Array Value) (b' : Nat) (c' : Array Value) (w : World) : Prop := S w ∧ Holds w b c ∧ Holds w b' c' ∧ B ≤ b ∧ B ≤ b' ∧ b ≠ b'
theorem With2.swap (S : World → Prop) (B b : Nat) (c : Array Value) (b' : Nat) (c' : Array Value) : With2 S B b c b' c' = With2 S B b' c' b c := by
  funext w
  exact propext ⟨fun ⟨h1, h2, h3, h4, h5, h6⟩ => ⟨h1, h3, h2, h5, h4, h6.symm⟩, fun ⟨h1, h2, h3, h4, h5, h6⟩ => ⟨h1, h3, h2, h5, h4, h6.symm⟩⟩
theorem With2.stable {S : World → Prop} {B b : Nat} {c : Array Value} {b' : Nat} {c' : Array Value} (hS : Stable S) : Stable (With2 S B b c b' c') :=
  fun _ _ ⟨h1, h2, h3, h4, h5, h6⟩ hb => ⟨hS _ _ h1 hb, h2.keep hb, h3.keep hb, h4, h5, h6⟩

theorem lOp_special {T : World → Prop} {i : Nat} {o : Oper} {a : Act} {K : (World → Prop) → Act → Prop} (hi : ops[i]? = some o) (V : Value → World → Prop) (hg : o.guard = none) (h1 : ∀ u, Stable (V u)) (h2 : ∀ u w, V u w → S w)
    (hv : ∀ w, T w → sUpon P V ((execOp a.eval o).run P w)) (hk : ∀ u, (∃ w, V u w) → K (V u) (a.put o.dst u)) : lOp P ops S T i K a := by
  unfold lOp
  simp only [hi]
  exact .inr ⟨V, ⟨h1, h2, by simp [Region.wanted, hg], hv⟩, hk⟩

theorem lOp_alloc {T : World → Prop} {i : Nat} {o : Oper} {a : Act} {K : (World → Prop) → Act → Prop} (hi : ops[i]? = some o) (B : Nat) (c : Array Value) (t : TypeId) (hS : Stable S) (hB : ∀ w, S w → B ≤ w.heap.size) (hTS : ∀ w, T w → S w) (hg : o.guard = none)
    (hr : ∀ w, (execOp a.eval o).run P w = .ok (.value (.pointer (some ⟨w.heap.size, 0, none⟩))) (w.alloc (.cells c t)))
    (hk : ∀ b, K (With S B b c) (a.put o.dst (.pointer (some ⟨b, 0, none⟩)))) : lOp P ops S T i K a := by
  refine lOp_special hi (fun u w => ∃ b, u = .pointer (some ⟨b, 0, none⟩) ∧ With S B b c w) hg ?_ ?_ ?_ ?_
  · rintro u w w' ⟨b, rfl, h⟩ hb; exact ⟨b, rfl, With.stable hS _ _ h hb⟩
  · rintro u w ⟨b, rfl, h⟩; exact h.1
  · intro w hw
    rw [hr w]
    have hs := hTS w hw
    exact ⟨w.heap.size, rfl, hS _ _ hs (below_of_allocs _), Holds.new _ _ _, hB _ hs⟩
  · rintro u ⟨w, b, rfl, hw⟩
    have e : (fun w => ∃ b', (Value.pointer (some ⟨b, 0, none⟩)) = .pointer (some ⟨b', 0, none⟩) ∧ With S B b' c w) = With S B b c := by
      funext w
      refine propext ⟨?_, fun h => ⟨b, rfl, h⟩⟩
      rintro ⟨b', h, hw⟩
      cases h
      exact hw
    rw [e]
    exact hk b

theorem lOp_alloc2 {i : Nat} {o : Oper} {a : Act} {K : (World → Prop) → Act → Prop} {B b : Nat} {c : Array Value} (hi : ops[i]? = some o) (c' : Array Value) (t : TypeId) (hS : Stable S) (hB : ∀ w, S w → B ≤ w.heap.size) (hg : o.guard = none)
    (hr : ∀ w, (execOp a.eval o).run P w = .ok (.value (.pointer (some ⟨w.heap.size, 0, none⟩))) (w.alloc (.cells c' t)))
    (hk : ∀ b', K (With2 S B b c b' c') (a.put o.dst (.pointer (some ⟨b', 0, none⟩)))) : lOp P ops S (With S B b c) i K a := by
  refine lOp_special hi (fun u w => ∃ b', u = .pointer (some ⟨b', 0, none⟩) ∧ With2 S B b c b' c' w) hg ?_ ?_ ?_ ?_
  · rintro u w w' ⟨b', rfl, h⟩ hb; exact ⟨b', rfl, With2.stable hS _ _ h hb⟩
  · rintro u w ⟨b', rfl, h⟩; exact h.1
  · rintro w ⟨h1, h2, h3⟩
    rw [hr w]
    have := h2.lt
    exact ⟨w.heap.size, rfl, hS _ _ h1 (below_of_allocs _), h2.keep (below_of_allocs _), Holds.new _ _ _, h3, hB _ h1, by omega⟩
  · rintro u ⟨w, b', rfl, hw⟩
    have e : (fun w => ∃ b'', (Value.pointer (some ⟨b', 0, none⟩)) = .pointer (some ⟨b'', 0, none⟩) ∧ With2 S B b c b'' c' w) = With2 S B b c b' c' := by
      funext w
      refine propext ⟨?_, fun h => ⟨b', rfl, h⟩⟩
      rintro ⟨b'', h, hw⟩
      cases h
      exact hw
    rw [e]
    exact hk b'

theorem Holds.awayAll {b b' : Nat} {c : Array Value} (hne : b' ≠ b) : ∀ (vs : List Value) (w : World) (i : Nat), Holds w b c → Holds (setAll w b' i vs) b c
  | [], _, _, h => h
  | v :: vs, _, i, h => Holds.awayAll hne vs _ (i + 1) (h.other hne i v)

theorem lOp_store {i : Nat} {o : Oper} {a : Act} {K : (World → Prop) → Act → Prop} {B b : Nat} {c : Array Value} {b' : Nat} {c' : Array Value} (hi : ops[i]? = some o) (vs : List Value) (hS : Stable S)
    (hSs : ∀ w b i x, S w → B ≤ b → S (w.setCell ⟨b, i, none⟩ x)) (hs : (vs.foldl (fun (p : Nat × Array Value) v => (p.1 + 1, p.2.setIfInBounds p.1 v)) (0, c)).2 = vs.toArray) (hg : o.guard = none)
    (hr : ∀ w, Holds w b c → (execOp a.eval o).run P w = .ok .skip (setAll w b 0 vs))
    (hk : K (With2 S B b vs.toArray b' c') (a.put o.dst undef)) : lOp P ops S (With2 S B b c b' c') i K a := by
  refine lOp_special hi (fun u w => u = undef ∧ With2 S B b vs.toArray b' c' w) hg ?_ ?_ ?_ ?_
  · rintro u w w' ⟨rfl, h⟩ hb; exact ⟨rfl, With2.stable hS _ _ h hb⟩
  · rintro u w ⟨rfl, h⟩; exact h.1
  · rintro w ⟨h1, h2, h3, h4, h5, h6⟩
    rw [hr w h2]
    have := h2.setFrom vs w 0 c
    rw [hs] at this
    exact ⟨rfl, cond_setAll hSs h4 _ _ _ h1, this, Holds.awayAll h6 _ _ _ h3, h4, h5, h6⟩
  · rintro u ⟨w, rfl, hw⟩
    have e : (fun w => undef = undef ∧ With2 S B b vs.toArray b' c' w) = With2 S B b vs.toArray b' c' := by
      funext w; exact propext ⟨fun h => h.2, fun h => ⟨rfl, h⟩⟩
    rw [e]
    exact hk

theorem With2.mm {w0 wr w : World} {L : List (Nat × Array Value)} {b b' : Nat} {c c' : Array Value} (hr : Mm w0 wr L) (h : With2 (Up w0 wr L) wr.heap.size b c b' c' w) : Mm w0 w ((b, c) :: (b', c') :: L) := by
  obtain ⟨h1, h2, h3, h4, h5, h6⟩ := h
  have m1 : Mm w0 w ((b', c') :: L) := With.mm hr ⟨h1, h3, h5⟩
  refine ⟨m1.below, fun x hx => ?_, List.Pairwise.cons (fun x hx => ?_) m1.dist⟩
  · rcases List.mem_cons.1 hx with rfl | hx
    · exact ⟨Nat.le_trans hr.below.size h4, h2⟩
    · exact m1.mem x hx
  · rcases List.mem_cons.1 hx with rfl | hx
    · exact h6
    · have := (hr.mem x hx).2.lt
      show b ≠ x.1
      omega
end
end Go.Proofs.Ytpkgcklnknbbcaa
