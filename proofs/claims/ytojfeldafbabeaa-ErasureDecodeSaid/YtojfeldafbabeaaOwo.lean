/- A grid whose outer slice is built by append: its rows at blocks of their own, of another element type. -/
import Derived.Test.YtojfeldafbabeaaOwn
set_option linter.unusedVariables false
set_option linter.unusedSimpArgs false
set_option linter.unnecessarySimpa false
namespace Go.Mem
open Go.RowKit Go.Deep

/-- an owned block whose element type is known -/
def OwnT (w : World) (b : Nat) (t : TypeId) (m : Nat) (f : Nat → Value) : Prop := ∃ c : Array Value, w.heap[b]? = some (.cells c t (0, 0)) ∧ m ≤ c.size ∧ ∀ i, i < m → c[i]? = some (f i)
namespace OwnT
variable {w w' : World} {b m : Nat} {t : TypeId} {f g : Nat → Value}
theorem own (h : OwnT w b t m f) : Own w b m f := by
  obtain ⟨c, hb, hn, hc⟩ := h
  exact ⟨c, t, hb, hn, hc⟩
theorem lt (h : OwnT w b t m f) : b < w.heap.size := h.own.lt
theorem cell (h : OwnT w b t m f) {i : Nat} (hi : i < m) : w.cell? ⟨b, i, none⟩ = some (f i) := h.own.cell hi
theorem frozen (h : OwnT w b t m f) (i : Nat) : w.frozen? ⟨b, i, none⟩ = false := h.own.frozen i
theorem congr (h : OwnT w b t m f) (e : ∀ i, i < m → f i = g i) : OwnT w b t m g := by
  obtain ⟨c, hb, hn, hc⟩ := h
  exact ⟨c, hb, hn, fun i hi => by rw [hc i hi, e i hi]⟩
theorem of_block (h : OwnT w b t m f) (e : w'.heap[b]? = w.heap[b]?) : OwnT w' b t m f := by
  obtain ⟨c, hb, hn, hc⟩ := h
  exact ⟨c, e.trans hb, hn, hc⟩
theorem set (h : OwnT w b t m f) (i : Nat) (v : Value) : OwnT (w.setCell ⟨b, i, none⟩ v) b t m (fun j => if j = i then v else f j) := by
  obtain ⟨c, hb, hn, hc⟩ := h
  refine ⟨c.setIfInBounds i v, ?_, by simpa using hn, fun j hj => ?_⟩
  · simp [World.setCell, Array.getElem?_modify, hb]
  · rw [Array.getElem?_setIfInBounds]
    by_cases e : j = i
    · subst e
      simp
      omega
    · rw [if_neg (fun h => e h.symm)]
      show c[j]? = some (if j = i then v else f j)
      rw [if_neg e]
      exact hc j hj
theorem setOther (h : OwnT w b t m f) {a : Addr} (ha : b ≠ a.block) (v : Value) : OwnT (w.setCell a v) b t m f := h.of_block (blk_setCell_other _ _ _ _ ha)
theorem alloc (h : OwnT w b t m f) (o : Obj) : OwnT (w.alloc o) b t m f := h.of_block (blk_alloc_lt _ _ _ h.lt)
theorem drew (h : OwnT w b t m f) : OwnT w.drew b t m f := h
theorem of_row (h : w.rowIs b t m f) : OwnT w b t m f := by
  obtain ⟨c, hb, hn, hc⟩ := h
  exact ⟨c, hb, by omega, hc⟩
theorem ne_own (h : OwnT w b t m f) {base n size : Nat} {e : TypeId} {v : Value} {xs : List Value} (ho : w.ownsRow base e size v n xs) (hte : t ≠ e) : some b ≠ v.ownBlock := by
  obtain ⟨c, hb, _, _⟩ := h
  intro e2
  rcases ho.2 with ⟨rfl, _⟩ | ⟨g, cap, cur, rfl, _, hg, _⟩
  · simp [Value.ownBlock] at e2
  · simp [Value.ownBlock] at e2
    subst e2
    rw [hb] at hg
    cases hg
    exact hte rfl
end OwnT

theorem ownT_of_ownsRow {w : World} {base n : Nat} {e : TypeId} {v : Value} {xs : List Value} (h : w.ownsRow base e 1 v n xs) (hn : 0 < n) :
    ∃ g cap, v = .slice (some ⟨g, 0, none⟩) n cap ∧ base ≤ g ∧ n ≤ cap ∧ cap ≤ maxLen ∧ OwnT w g e n (fun i => xs.getD i undef) := by
  obtain ⟨hl, h | ⟨g, cap, cur, rfl, hb, hg, h1, h2, h3, h4⟩⟩ := h
  · omega
  · refine ⟨g, cap, rfl, hb, h1, h2, cur, hg, by omega, fun i hi => ?_⟩
    simp only [Nat.mul_one] at h4 hl
    have : i < xs.length := by omega
    rw [← h4] at this ⊢
    simp at this
    show cur[i]? = some ((List.take n cur.toList).getD i undef)
    rw [List.getD_eq_getElem?_getD, List.getElem?_take, if_pos hi]
    simp [show i < cur.size by omega]

def slices (G C : Nat → Nat) (m n : Nat) : List Value := (List.range n).map fun i => .slice (some ⟨G i, 0, none⟩) m (C i)
theorem slices_succ (G C : Nat → Nat) (m n g c : Nat) : slices (fun i => if i = n then g else G i) (fun i => if i = n then c else C i) m (n + 1) = slices G C m n ++ [.slice (some ⟨g, 0, none⟩) m c] := by
  unfold slices
  rw [List.range_succ, List.map_append]
  congr 1
  · refine List.map_congr_left fun i hi => ?_
    have : i < n := List.mem_range.1 hi
    have hne : ¬ i = n := by omega
    simp [hne]
  · simp

/-- n rows of m bytes, their slices in the slice v, which append built -/
structure GridO (w : World) (base : Nat) (e e1 : TypeId) (v : Value) (n m : Nat) (G C : Nat → Nat) (t : Nat → Nat → GF.F) : Prop where
  outer : w.ownsRow base e 1 v n (slices G C m n)
  inner : ∀ i, i < n → OwnT w (G i) e1 m (fun j => .int .u8 (((t i j).v : Nat) : Int))
  baseG : ∀ i, i < n → base ≤ G i
  inj : ∀ i j, i < n → j < n → G i = G j → i = j
  cap : ∀ i, i < n → m ≤ C i ∧ C i ≤ maxLen
namespace GridO
variable {w w' : World} {base n m : Nat} {e e1 : TypeId} {v v' : Value} {G C : Nat → Nat} {t t' : Nat → Nat → GF.F}
theorem nil (w : World) (base : Nat) (e e1 : TypeId) (m : Nat) (G C : Nat → Nat) (t : Nat → Nat → GF.F) : GridO w base e e1 (.slice none 0 0) 0 m G C t :=
  ⟨World.ownsRow_nil _ _ _ _, fun i hi => by omega, fun i hi => by omega, fun i j hi => by omega, fun i hi => by omega⟩
theorem congr (h : GridO w base e e1 v n m G C t) (q : ∀ i j, i < n → j < m → t i j = t' i j) : GridO w base e e1 v n m G C t' :=
  ⟨h.outer, fun i hi => (h.inner i hi).congr fun j hj => by rw [q i j hi hj], h.baseG, h.inj, h.cap⟩
theorem of_blocks (h : GridO w base e e1 v n m G C t) (q : ∀ b, b < w.heap.size → w'.heap[b]? = w.heap[b]?) : GridO w' base e e1 v n m G C t :=
  ⟨⟨h.outer.1, by
    rcases h.outer.2 with hh | ⟨g, cap, cur, hv, hb, hg, r⟩
    · exact .inl hh
    · exact .inr ⟨g, cap, cur, hv, hb, by rw [q g (Array.getElem?_eq_some_iff.1 hg).1]; exact hg, r⟩⟩, fun i hi => (h.inner i hi).of_block (q _ (h.inner i hi).lt), h.baseG, h.inj, h.cap⟩
theorem below (h : GridO w base e e1 v n m G C t) (hb : Below w.heap.size w w') : GridO w' base e e1 v n m G C t := h.of_blocks hb.block
/-- an append of one row -/
theorem push (h : GridO w base e e1 v n m G C t) (hee : e1 ≠ e) {g c : Nat} {row : Nat → GF.F} (hg : OwnT w g e1 m (fun j => .int .u8 (((row j).v : Nat) : Int))) (hb : base ≤ g) (hG : ∀ i, i < n → G i ≠ g) (hc : m ≤ c ∧ c ≤ maxLen)
    (hown : w'.ownsRow base e 1 v' (n + 1) (slices G C m n ++ [.slice (some ⟨g, 0, none⟩) m c])) (hgrow : w.grownBy w' v.ownBlock) :
    GridO w' base e e1 v' (n + 1) m (fun i => if i = n then g else G i) (fun i => if i = n then c else C i) (fun i => if i = n then row else t i) := by
  refine ⟨by rw [slices_succ]; exact hown, fun i hi => ?_, fun i hi => ?_, fun i j hi hj q => ?_, fun i hi => ?_⟩
  · by_cases q : i = n
    · subst q
      simp only [if_true]
      exact hg.of_block (hgrow.block _ hg.lt (hg.ne_own h.outer hee))
    · simp only [q, if_false]
      have hi' := h.inner i (by omega)
      exact hi'.of_block (hgrow.block _ hi'.lt (hi'.ne_own h.outer hee))
  · by_cases q : i = n
    · simp [q, hb]
    · simp only [q, if_false]; exact h.baseG i (by omega)
  · by_cases e1 : i = n <;> by_cases e2 : j = n
    · omega
    · simp only [e1, e2, if_true, if_false] at q
      exact absurd q.symm (hG j (by omega))
    · simp only [e1, e2, if_true, if_false] at q
      exact absurd q (hG i (by omega))
    · simp only [e1, e2, if_false] at q
      exact h.inj i j (by omega) (by omega) q
  · by_cases q : i = n
    · simp only [q, if_true]; exact hc
    · simp only [q, if_false]; exact h.cap i (by omega)
theorem grid (h : GridO w base e e1 v n m G C t) (hee : e1 ≠ e) (hn : 0 < n) : ∃ R cap, v = .slice (some ⟨R, 0, none⟩) n cap ∧ n ≤ cap ∧ cap ≤ maxLen ∧ Grid w base R n m G C t := by
  obtain ⟨R, cap, rfl, hb, h1, h2, ho⟩ := ownT_of_ownsRow h.outer hn
  refine ⟨R, cap, rfl, h1, h2, ⟨ho.own.congr fun i hi => ?_, fun i hi => (h.inner i hi).own, hb, h.baseG, fun i hi q => ?_, h.inj, h.cap⟩⟩
  · simp [slices, hi]
  · have := (h.inner i hi).ne_own h.outer hee
    simp [Value.ownBlock] at this
    exact this q
theorem lt (h : GridO w base e e1 v n m G C t) {i : Nat} (hi : i < n) : G i < w.heap.size := (h.inner i hi).lt
end GridO
end Go.Mem
