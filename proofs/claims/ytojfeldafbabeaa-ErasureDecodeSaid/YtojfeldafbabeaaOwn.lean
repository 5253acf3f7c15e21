/- Blocks that a call owns: a row of cells known up to a length; a grid: a row of slices, each at a block of its own. -/
import Derived.Test.YtojfeldafbabeaaMem
import Derived.Test.YtojfeldafbabeaaMat
import Derived.Laws.CopyOwn
set_option linter.unusedVariables false
set_option linter.unusedSimpArgs false
set_option linter.unnecessarySimpa false
namespace Go.Mem
open Go.RowKit Go.Deep

/-- block b's first m cells are f 0, f 1, ..; it may be written -/
def Own (w : World) (b m : Nat) (f : Nat → Value) : Prop := ∃ c t, w.heap[b]? = some (.cells c t (0, 0)) ∧ m ≤ c.size ∧ ∀ i, i < m → c[i]? = some (f i)

namespace Own
variable {w w' : World} {b m : Nat} {f g : Nat → Value}
theorem cell (h : Own w b m f) {i : Nat} (hi : i < m) : w.cell? ⟨b, i, none⟩ = some (f i) := by
  obtain ⟨c, t, hb, _, hc⟩ := h
  simp [World.cell?, hb, hc i hi]
theorem frozen (h : Own w b m f) (i : Nat) : w.frozen? ⟨b, i, none⟩ = false := by
  obtain ⟨c, t, hb, _, _⟩ := h
  simp [World.frozen?, hb]
theorem lt (h : Own w b m f) : b < w.heap.size := by
  obtain ⟨c, t, hb, _, _⟩ := h
  exact (Array.getElem?_eq_some_iff.1 hb).1
theorem congr (h : Own w b m f) (e : ∀ i, i < m → f i = g i) : Own w b m g := by
  obtain ⟨c, t, hb, hn, hc⟩ := h
  exact ⟨c, t, hb, hn, fun i hi => by rw [hc i hi, e i hi]⟩
theorem less (h : Own w b m f) {m' : Nat} (hm : m' ≤ m) : Own w b m' f := by
  obtain ⟨c, t, hb, hn, hc⟩ := h
  exact ⟨c, t, hb, by omega, fun i hi => hc i (by omega)⟩
theorem of_block (h : Own w b m f) (e : w'.heap[b]? = w.heap[b]?) : Own w' b m f := by
  obtain ⟨c, t, hb, hn, hc⟩ := h
  exact ⟨c, t, e.trans hb, hn, hc⟩
theorem set (h : Own w b m f) (i : Nat) (v : Value) : Own (w.setCell ⟨b, i, none⟩ v) b m (fun j => if j = i then v else f j) := by
  obtain ⟨c, t, hb, hn, hc⟩ := h
  refine ⟨c.setIfInBounds i v, t, ?_, by simpa using hn, fun j hj => ?_⟩
  · simp [World.setCell, Array.getElem?_modify, hb]
  · rw [Array.getElem?_setIfInBounds]
    by_cases e : j = i
    · subst e
      simp
      omega
    · rw [if_neg (fun h => e h.symm)]
      show c[j]? = some (if j = i then v else f j)
      rw [if_neg e]
      exact hc j hj
theorem setOther (h : Own w b m f) {a : Addr} (ha : b ≠ a.block) (v : Value) : Own (w.setCell a v) b m f := h.of_block (blk_setCell_other _ _ _ _ ha)
theorem alloc (h : Own w b m f) (o : Obj) : Own (w.alloc o) b m f := h.of_block (blk_alloc_lt _ _ _ h.lt)
theorem drew (h : Own w b m f) : Own w.drew b m f := h
theorem below (h : Own w b m f) {B : Nat} (hb : Below B w w') (hB : b < B) : Own w' b m f := h.of_block (hb.block b hB)
theorem grown (h : Own w b m f) {row : Option Nat} (hg : w.grownBy w' row) (hr : some b ≠ row) : Own w' b m f := h.of_block (hg.block b h.lt hr)
theorem of_row {t : TypeId} (h : w.rowIs b t m f) : Own w b m f := by
  obtain ⟨c, hb, hn, hc⟩ := h
  exact ⟨c, t, hb, by omega, hc⟩
theorem bytes (h : Own w b m f) {l : List Nat} {cap : Nat} (hl : l.length = m) (hf : ∀ i, i < m → f i = .int .u8 ((l.getD i 0 : Nat) : Int)) (hc : m ≤ cap) (hm : cap ≤ maxLen) (hs : m ≤ 140737488351232) (hv : ∀ x ∈ l, x < 256) :
    Bytes w (.slice (some ⟨b, 0, none⟩) m cap) l := by
  subst hl
  refine ⟨⟨some ⟨b, 0, none⟩, cap, by rw [len_u8s], by rw [len_u8s]; exact hc, hm, by rw [len_u8s]; exact hs, .inr ⟨b, 0, rfl, h.lt, fun i hi => ?_⟩⟩, hv⟩
  rw [len_u8s] at hi
  rw [Nat.zero_add, h.cell hi, hf i hi]
  simp [u8s, hi]
end Own

/-- what an owned slice that is not nil leads to -/
theorem own_of_ownsRow {w : World} {base n : Nat} {e : TypeId} {v : Value} {xs : List Value} (h : w.ownsRow base e 1 v n xs) (hn : 0 < n) :
    ∃ g cap, v = .slice (some ⟨g, 0, none⟩) n cap ∧ base ≤ g ∧ n ≤ cap ∧ cap ≤ maxLen ∧ Own w g n (fun i => xs.getD i undef) := by
  obtain ⟨hl, h | ⟨g, cap, cur, rfl, hb, hg, h1, h2, h3, h4⟩⟩ := h
  · omega
  · refine ⟨g, cap, rfl, hb, h1, h2, cur, e, hg, by omega, fun i hi => ?_⟩
    simp only [Nat.mul_one] at h4 hl
    have : i < xs.length := by omega
    rw [← h4] at this ⊢
    simp at this
    show cur[i]? = some ((List.take n cur.toList).getD i undef)
    rw [List.getD_eq_getElem?_getD, List.getElem?_take, if_pos hi]
    simp [show i < cur.size by omega]

/-- n rows of m bytes, row i at block G i, their slices in block R -/
structure Grid (w : World) (base R n m : Nat) (G C : Nat → Nat) (t : Nat → Nat → GF.F) : Prop where
  outer : Own w R n (fun i => .slice (some ⟨G i, 0, none⟩) m (C i))
  inner : ∀ i, i < n → Own w (G i) m (fun j => .int .u8 (((t i j).v : Nat) : Int))
  baseR : base ≤ R
  baseG : ∀ i, i < n → base ≤ G i
  neR : ∀ i, i < n → G i ≠ R
  inj : ∀ i j, i < n → j < n → G i = G j → i = j
  cap : ∀ i, i < n → m ≤ C i ∧ C i ≤ maxLen

namespace Grid
variable {w w' : World} {base R n m : Nat} {G C : Nat → Nat} {t t' : Nat → Nat → GF.F}
theorem ocell (h : Grid w base R n m G C t) {i : Nat} (hi : i < n) : w.cell? ⟨R, i, none⟩ = some (.slice (some ⟨G i, 0, none⟩) m (C i)) := h.outer.cell hi
theorem icell (h : Grid w base R n m G C t) {i j : Nat} (hi : i < n) (hj : j < m) : w.cell? ⟨G i, j, none⟩ = some (.int .u8 (((t i j).v : Nat) : Int)) := (h.inner i hi).cell hj
theorem congr (h : Grid w base R n m G C t) (e : ∀ i j, i < n → j < m → t i j = t' i j) : Grid w base R n m G C t' :=
  ⟨h.outer, fun i hi => (h.inner i hi).congr fun j hj => by rw [e i j hi hj], h.baseR, h.baseG, h.neR, h.inj, h.cap⟩
theorem recast (h : Grid w base R n m G C t) {G' C' : Nat → Nat} (eG : ∀ i, i < n → G i = G' i) (eC : ∀ i, i < n → C i = C' i) (e : ∀ i j, i < n → j < m → t i j = t' i j) : Grid w base R n m G' C' t' :=
  ⟨h.outer.congr fun i hi => by rw [eG i hi, eC i hi], fun i hi => by rw [← eG i hi]; exact (h.inner i hi).congr fun j hj => by rw [e i j hi hj], h.baseR, fun i hi => by rw [← eG i hi]; exact h.baseG i hi, fun i hi => by rw [← eG i hi]; exact h.neR i hi,
    fun i j hi hj x => h.inj i j hi hj (by rw [eG i hi, eG j hj]; exact x), fun i hi => by rw [← eC i hi]; exact h.cap i hi⟩
theorem drew (h : Grid w base R n m G C t) : Grid w.drew base R n m G C t := ⟨h.outer, h.inner, h.baseR, h.baseG, h.neR, h.inj, h.cap⟩
theorem of_blocks (h : Grid w base R n m G C t) (e : ∀ b, b < w.heap.size → w'.heap[b]? = w.heap[b]?) : Grid w' base R n m G C t :=
  ⟨h.outer.of_block (e _ h.outer.lt), fun i hi => (h.inner i hi).of_block (e _ (h.inner i hi).lt), h.baseR, h.baseG, h.neR, h.inj, h.cap⟩
theorem below (h : Grid w base R n m G C t) (hb : Below w.heap.size w w') : Grid w' base R n m G C t := h.of_blocks hb.block
theorem set (h : Grid w base R n m G C t) {i : Nat} (hi : i < n) (j : Nat) (x : GF.F) :
    Grid (w.setCell ⟨G i, j, none⟩ (.int .u8 ((x.v : Nat) : Int))) base R n m G C (fun a b => if a = i ∧ b = j then x else t a b) := by
  refine ⟨h.outer.setOther (a := ⟨G i, j, none⟩) (fun e => h.neR i hi e.symm) _, fun a ha => ?_, h.baseR, h.baseG, h.neR, h.inj, h.cap⟩
  by_cases e : a = i
  · subst e
    refine ((h.inner a ha).set j _).congr fun b _ => ?_
    by_cases eb : b = j
    · simp [eb]
    · simp [eb]
  · refine ((h.inner a ha).setOther (a := ⟨G i, j, none⟩) (fun e2 => e (h.inj a i ha hi e2)) _).congr fun b _ => ?_
    simp [e]
theorem swap (h : Grid w base R n m G C t) {p k : Nat} (hp : p < n) (hk : k < n) :
    Grid ((w.setCell ⟨R, p, none⟩ (.slice (some ⟨G k, 0, none⟩) m (C k))).setCell ⟨R, k, none⟩ (.slice (some ⟨G p, 0, none⟩) m (C p))) base R n m (fun i => G (GF.sw p k i)) (fun i => C (GF.sw p k i)) (fun i => t (GF.sw p k i)) := by
  have hs := fun i (hi : i < n) => GF.sw_lt hp hk hi
  refine ⟨((h.outer.set p _).set k _).congr fun i _ => ?_, fun i hi => (((h.inner _ (hs i hi)).setOther (a := ⟨R, p, none⟩) (h.neR _ (hs i hi)) _).setOther (a := ⟨R, k, none⟩) (h.neR _ (hs i hi)) _), h.baseR, fun i hi => h.baseG _ (hs i hi), fun i hi => h.neR _ (hs i hi), fun i j hi hj e => ?_, fun i hi => h.cap _ (hs i hi)⟩
  · unfold GF.sw
    by_cases e1 : i = k
    · simp [e1]
    · by_cases e2 : i = p
      · subst e2; simp [e1]
      · simp [e1, e2]
  · have := h.inj _ _ (hs i hi) (hs j hj) e
    rw [← GF.sw_sw p k i, this, GF.sw_sw]
/-- a store beyond the rows -/
theorem spare (h : Grid w base R n m G C t) {j : Nat} (hj : n ≤ j) (v : Value) : Grid (w.setCell ⟨R, j, none⟩ v) base R n m G C t :=
  ⟨(h.outer.set j v).congr fun i hi => by rw [if_neg (by omega)], fun i hi => (h.inner i hi).setOther (a := ⟨R, j, none⟩) (h.neR i hi) v, h.baseR, h.baseG, h.neR, h.inj, h.cap⟩
/-- a block beside the grid has changed -/
theorem beside (h : Grid w base R n m G C t) {g : Nat} (hR : g ≠ R) (hG : ∀ i, i < n → G i ≠ g) (e : ∀ b, b ≠ g → w'.heap[b]? = w.heap[b]?) : Grid w' base R n m G C t :=
  ⟨h.outer.of_block (e _ (fun x => hR x.symm)), fun i hi => (h.inner i hi).of_block (e _ (hG i hi)), h.baseR, h.baseG, h.neR, h.inj, h.cap⟩
/-- one row more, its slice stored already -/
theorem push (h : Grid w base R n m G C t) {M g c : Nat} {fo : Nat → Value} {row : Nat → GF.F} (ho : Own w R M fo) (hn : n < M) (hf : fo n = .slice (some ⟨g, 0, none⟩) m c) (hg : Own w g m (fun j => .int .u8 (((row j).v : Nat) : Int))) (hb : base ≤ g) (hR : g ≠ R)
    (hG : ∀ i, i < n → G i ≠ g) (hc : m ≤ c ∧ c ≤ maxLen) :
    Grid w base R (n + 1) m (fun i => if i = n then g else G i) (fun i => if i = n then c else C i) (fun i => if i = n then row else t i) := by
  refine ⟨?_, fun i hi => ?_, h.baseR, fun i hi => ?_, fun i hi => ?_, fun i j hi hj e => ?_, fun i hi => ?_⟩
  · have hs := ho.less (m' := n + 1) hn
    refine hs.congr fun i hi => ?_
    by_cases e : i = n
    · subst e; simp [hf]
    · rw [if_neg e, if_neg e]
      have h1 := ho.cell (i := i) (by omega)
      have h2 := h.ocell (i := i) (by omega)
      rw [h1] at h2
      exact Option.some.inj h2
  · by_cases e : i = n
    · subst e
      simp only [if_true]
      exact hg
    · simp only [e, if_false]
      exact h.inner i (by omega)
  · by_cases e : i = n
    · simp [e, hb]
    · simp only [e, if_false]; exact h.baseG i (by omega)
  · by_cases e : i = n
    · simp [e, hR]
    · simp only [e, if_false]; exact h.neR i (by omega)
  · by_cases e1 : i = n <;> by_cases e2 : j = n
    · omega
    · simp only [e1, e2, if_true, if_false] at e
      exact absurd e.symm (hG j (by omega))
    · simp only [e1, e2, if_true, if_false] at e
      exact absurd e (hG i (by omega))
    · simp only [e1, e2, if_false] at e
      exact h.inj i j (by omega) (by omega) e
  · by_cases e : i = n
    · simp only [e, if_true]; exact hc
    · simp only [e, if_false]; exact h.cap i (by omega)
theorem empty (w : World) (base R m : Nat) (G C : Nat → Nat) (t : Nat → Nat → GF.F) {M : Nat} {fo : Nat → Value} (ho : Own w R M fo) (hb : base ≤ R) : Grid w base R 0 m G C t :=
  ⟨(ho.less (Nat.zero_le _)).congr (fun i hi => by omega), fun i hi => by omega, hb, fun i hi => by omega, fun i hi => by omega, fun i j hi => by omega, fun i hi => by omega⟩
theorem mat (h : Grid w base R n m G C t) {cap : Nat} (hc : n ≤ cap) (hm : cap ≤ maxLen) (hs : n ≤ 140737488351232) (hs2 : m ≤ 140737488351232) :
    Mat w (.slice (some ⟨R, 0, none⟩) n cap) ((List.range n).map fun i => (List.range m).map fun j => (t i j).v) := by
  refine ⟨(List.range n).map fun i => .slice (some ⟨G i, 0, none⟩) m (C i), ⟨some ⟨R, 0, none⟩, cap, by simp, by simpa using hc, hm, by simpa using hs, .inr ⟨R, 0, rfl, h.outer.lt, fun i hi => ?_⟩⟩, by simp, fun i x r hx hr => ?_⟩
  · have hi' : i < n := by simpa using hi
    rw [Nat.zero_add, h.ocell hi']
    simp [hi']
  · have hi : i < n := by
      rcases Nat.lt_or_ge i n with h | h
      · exact h
      · rw [List.getElem?_eq_none (by simpa using h)] at hx; cases hx
    simp [hi] at hx hr
    subst hx; subst hr
    refine (h.inner i hi).bytes (by simp) (fun j hj => ?_) (h.cap i hi).1 (h.cap i hi).2 hs2 (fun x hx => ?_)
    · simp [hj]
    · obtain ⟨j, _, rfl⟩ := List.mem_map.1 hx
      exact (t i j).lt
end Grid

open Go.RowKit in
/-- the builtin copy of bytes into a block of the call's own -/
theorem wpList_copy_into {P : Program} {w : World} {ops : Array Oper} {rest : List Oper} {o : Oper} {a : Act} {Q : Exit → Act → World → Prop} (hgd : o.guard = none) (d s : Operand) (dT sT : TypeId)
    (ho : o.op = .call { callee := .builtin .copy, args := #[d, s], argTypes := #[dT, sT] }) (elem : TypeId) (hu : P.underlying dT = some (.slice elem)) (hsz : (P.info? elem).map (·.size) = some 1)
    (g off dLen dCap : Nat) (sp : Option Addr) (sLen sCap : Nat) (hd : a.eval d = .slice (some ⟨g, off, none⟩) dLen dCap) (hs : a.eval s = .slice sp sLen sCap)
    (M : Nat) (fo : Nat → Value) (hown : Own w g M fo) (l : List Nat) (hb : Bytes w (.slice sp sLen sCap) l) (hfit : off + l.length ≤ M) (hle : l.length ≤ dLen)
    (h : ∀ w', Hid (Own w' g M (fun i => if off ≤ i ∧ i < off + l.length then .int .u8 ((l.getD (i - off) 0 : Nat) : Int) else fo i) ∧ (∀ b, b ≠ g → w'.heap[b]? = w.heap[b]?) ∧ w'.heap.size = w.heap.size ∧ Below g w w') →
      wpList P ops Q rest (a.put o.dst (goInt l.length)) w') : wpList P ops Q (o :: rest) a w := by
  obtain ⟨⟨a', cap', e, h1, h2, h4, h3⟩, hlt⟩ := hb
  rw [len_u8s] at e h1 h4
  cases e
  have hmin : Nat.min l.length dLen = l.length := Nat.min_eq_left hle
  obtain ⟨c, t, hc, hM, hcell⟩ := hown
  rcases h3 with h3 | ⟨b, of, rfl, hbl, hcs⟩
  · have hl0 : l = [] := by simpa [u8s] using h3
    subst hl0
    refine wpList_copy_nothing hgd d s dT sT ho elem hu hsz _ _ _ _ _ _ hd hs (by simp) ?_
    exact h w (show _ ∧ _ from ⟨⟨c, t, hc, hM, fun i hi => by rw [hcell i hi]; exact congrArg some (if_neg (by simp)).symm⟩, fun _ _ => rfl, rfl, Below.refl _ _⟩)
  · refine wpList_copy_own hgd d s dT sT ho elem hu hsz g off dLen dCap ⟨b, of, none⟩ l.length _ hd hs c t hc (u8s l) (by rw [len_u8s, hmin]) (fun j v hj => ?_) (by rw [len_u8s]; omega) (fun v hv => ?_) ?_
    · have hjl : j < (u8s l).length := by
        rcases Nat.lt_or_ge j (u8s l).length with h | h
        · exact h
        · rw [List.getElem?_eq_none h] at hj; cases hj
      have := hcs j hjl
      have hadd : (⟨b, of, none⟩ : Addr).add j = ⟨b, of + j, none⟩ := by unfold Addr.add; split <;> simp_all
      rw [hadd, this, hj]
    · obtain ⟨x, _, rfl⟩ := List.mem_map.1 hv
      rfl
    · rw [len_u8s]
      refine h _ (show _ ∧ _ from ⟨⟨_, t, setRow_heap w g c _ t (0, 0) hc, ?_, fun i hi => ?_⟩, fun b hb => setRow_other w g b _ hb, setRow_size _ _ _, below_setRow (Below.refl _ _) (Nat.le_refl _) _⟩)
      · simp [len_u8s]; omega
      · have hci := hcell i hi
        simp only [List.getElem?_toArray]
        show _ = some (if off ≤ i ∧ i < off + l.length then Value.int .u8 ((l.getD (i - off) 0 : Nat) : Int) else fo i)
        by_cases e1 : i < off
        · rw [List.getElem?_append_left (by simp; omega), List.getElem?_take, if_pos e1, if_neg (by omega)]
          simpa using hci
        · rw [List.getElem?_append_right (by simp; omega)]
          have e2 : i - (List.take off c.toList).length = i - off := by simp; omega
          rw [e2]
          by_cases e3 : i < off + l.length
          · rw [List.getElem?_append_left (by rw [len_u8s]; omega), if_pos ⟨by omega, e3⟩]
            simp [u8s, show i - off < l.length by omega]
          · rw [List.getElem?_append_right (by rw [len_u8s]; omega), if_neg (by omega), len_u8s, List.getElem?_drop]
            rw [show off + l.length + (i - off - l.length) = i by omega]
            simpa using hci

end Go.Mem
