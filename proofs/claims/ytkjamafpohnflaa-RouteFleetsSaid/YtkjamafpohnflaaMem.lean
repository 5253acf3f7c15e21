/- What a value reads as in a world: a slice of bytes, a slice of such slices; how these readings last while the world grows. No program in sight. -/
import Derived.WalkKit
import Derived.Lib.Hide
import Derived.Deep.OwnRows
import Derived.Laws.BytesArg
set_option linter.unusedVariables false
set_option linter.unusedSimpArgs false
set_option linter.unnecessarySimpa false
namespace Go.Mem
open Go.RowKit Go.Deep

/-- a slice value that reads as the cells xs -/
def Elems (w : World) (v : Value) (xs : List Value) : Prop :=
  ∃ a cap, v = .slice a xs.length cap ∧ xs.length ≤ cap ∧ cap ≤ maxLen ∧ xs.length ≤ 140737488351232 ∧
    (xs = [] ∨ ∃ b off, a = some ⟨b, off, none⟩ ∧ b < w.heap.size ∧ ∀ i, i < xs.length → w.cell? ⟨b, off + i, none⟩ = xs[i]?)

def u8s (l : List Nat) : List Value := l.map fun n : Nat => .int .u8 (n : Int)
theorem len_u8s (l : List Nat) : (u8s l).length = l.length := by simp [u8s]

def Bytes (w : World) (v : Value) (l : List Nat) : Prop := Elems w v (u8s l) ∧ ∀ x ∈ l, x < 256

def Mat (w : World) (v : Value) (rows : List (List Nat)) : Prop :=
  ∃ vs : List Value, Elems w v vs ∧ vs.length = rows.length ∧ ∀ (i : Nat) (x : Value) (r : List Nat), vs[i]? = some x → rows[i]? = some r → Bytes w x r

theorem Elems.below {B : Nat} {w w' : World} {v : Value} {xs : List Value} (h : Elems w v xs) (hb : Below B w w') (hB : w.heap.size ≤ B) : Elems w' v xs := by
  obtain ⟨a, cap, rfl, h1, h2, h4, h3⟩ := h
  refine ⟨a, cap, rfl, h1, h2, h4, ?_⟩
  rcases h3 with h3 | ⟨b, off, rfl, hlt, hc⟩
  · exact .inl h3
  · exact .inr ⟨b, off, rfl, Nat.lt_of_lt_of_le hlt hb.size, fun i hi => by rw [hb.cell (p := ⟨b, off + i, none⟩) (by show b < B; omega)]; exact hc i hi⟩
theorem Bytes.below {B : Nat} {w w' : World} {v : Value} {l : List Nat} (h : Bytes w v l) (hb : Below B w w') (hB : w.heap.size ≤ B) : Bytes w' v l := ⟨h.1.below hb hB, h.2⟩
theorem Mat.below {B : Nat} {w w' : World} {v : Value} {r : List (List Nat)} (h : Mat w v r) (hb : Below B w w') (hB : w.heap.size ≤ B) : Mat w' v r := by
  obtain ⟨vs, h1, h2, h3⟩ := h
  exact ⟨vs, h1.below hb hB, h2, fun i x r hx hr => (h3 i x r hx hr).below hb hB⟩

theorem Elems.open {w : World} {v : Value} {xs : List Value} (h : Elems w v xs) : ∃ a cap, v = .slice a xs.length cap ∧ xs.length ≤ 140737488351232 := by
  obtain ⟨a, cap, rfl, h1, h2, h4, _⟩ := h
  exact ⟨a, cap, rfl, h4⟩
theorem Elems.cell {w : World} {a : Option Addr} {n cap : Nat} {xs : List Value} (h : Elems w (.slice a n cap) xs) {i : Nat} (hi : i < xs.length) :
    ∃ b off, a = some ⟨b, off, none⟩ ∧ b < w.heap.size ∧ w.cell? ⟨b, off + i, none⟩ = xs[i]? := by
  obtain ⟨a', cap', e, _, _, _, h3⟩ := h
  cases e
  rcases h3 with h3 | ⟨b, off, rfl, hb, hc⟩
  · subst h3; simp at hi
  · exact ⟨b, off, rfl, hb, hc i hi⟩

theorem Bytes.open {w : World} {v : Value} {l : List Nat} (h : Bytes w v l) : ∃ a cap, v = .slice a l.length cap ∧ l.length ≤ 140737488351232 := by
  have := h.1.open; rwa [len_u8s] at this
theorem Bytes.cell {w : World} {a : Option Addr} {n cap : Nat} {l : List Nat} (h : Bytes w (.slice a n cap) l) {i : Nat} (hi : i < l.length) :
    ∃ b off, a = some ⟨b, off, none⟩ ∧ b < w.heap.size ∧ w.cell? ⟨b, off + i, none⟩ = some (.int .u8 ((l.getD i 0 : Nat) : Int)) := by
  obtain ⟨b, off, e, hb, hc⟩ := h.1.cell (i := i) (by rw [len_u8s]; exact hi)
  refine ⟨b, off, e, hb, ?_⟩
  rw [hc]
  simp [u8s, hi]
theorem Bytes.lt {w : World} {v : Value} {l : List Nat} (h : Bytes w v l) (i : Nat) : l.getD i 0 < 256 := by
  by_cases hi : i < l.length
  · simp [hi]; exact h.2 _ (List.getElem_mem _)
  · simp [List.getElem?_eq_none (Nat.le_of_not_lt hi)]

theorem Mat.open {w : World} {v : Value} {r : List (List Nat)} (h : Mat w v r) : ∃ a cap, v = .slice a r.length cap ∧ r.length ≤ 140737488351232 := by
  obtain ⟨vs, h1, h2, _⟩ := h
  have := h1.open; rwa [h2] at this
theorem Mat.cell {w : World} {a : Option Addr} {n cap : Nat} {r : List (List Nat)} (h : Mat w (.slice a n cap) r) {i : Nat} (hi : i < r.length) :
    ∃ b off x, a = some ⟨b, off, none⟩ ∧ b < w.heap.size ∧ w.cell? ⟨b, off + i, none⟩ = some x ∧ Bytes w x (r.getD i []) := by
  obtain ⟨vs, h1, h2, h3⟩ := h
  obtain ⟨b, off, e, hb, hc⟩ := h1.cell (i := i) (by omega)
  have hi' : i < vs.length := by omega
  refine ⟨b, off, vs[i], e, hb, by rw [hc]; simp [hi'], ?_⟩
  have := h3 i vs[i] r[i] (by simp [hi']) (by simp [hi])
  simpa [hi] using this

theorem Mat.lt {w : World} {v : Value} {r : List (List Nat)} (h : Mat w v r) (k i : Nat) : (r.getD k []).getD i 0 < 256 := by
  obtain ⟨vs, h1, h2, h3⟩ := h
  by_cases hk : k < r.length
  · have hk' : k < vs.length := by omega
    have hb := h3 k vs[k] r[k] (by simp [hk']) (by simp [hk])
    have := hb.lt i
    simpa [hk] using this
  · rw [List.getD_eq_getElem?_getD (l := r), List.getElem?_eq_none (by omega)]
    simp

/-- an own row of bytes read from its head is a slice of bytes -/
theorem Bytes.of_row {w : World} {b cap : Nat} {t : TypeId} {l : List Nat} (h : w.rowIs b t cap (fun i => .int .u8 ((l.getD i 0 : Nat) : Int))) (hl : l.length ≤ cap) (hm : cap ≤ maxLen) (hs : l.length ≤ 140737488351232) (hv : ∀ x ∈ l, x < 256) :
    Bytes w (.slice (some ⟨b, 0, none⟩) l.length cap) l := by
  refine ⟨⟨some ⟨b, 0, none⟩, cap, by rw [len_u8s], by rw [len_u8s]; exact hl, hm, by rw [len_u8s]; exact hs, .inr ⟨b, 0, rfl, h.lt, fun i hi => ?_⟩⟩, hv⟩
  rw [len_u8s] at hi
  rw [Nat.zero_add, h.cell (by omega)]
  simp [u8s, hi]
theorem Bytes.nil (w : World) : Bytes w (.slice none 0 0) [] := ⟨⟨none, 0, rfl, Nat.le_refl _, by simp [maxLen], by decide, .inl rfl⟩, by simp⟩
theorem Mat.nil (w : World) : Mat w (.slice none 0 0) [] := ⟨[], ⟨none, 0, rfl, Nat.le_refl _, by simp [maxLen], by decide, .inl rfl⟩, rfl, by simp⟩

/-- for a quiet call inside a region that draws its order -/
theorem still {P : Program} {f : FuncId} {args : Array Value} {w : World} {v : Value} (h : Calls P f args w fun e w' => e = .returned v ∧ w = w') :
    Calls P f args w fun e w' => e = .returned v ∧ w' = w := h.mono fun _ _ ⟨a, b⟩ => ⟨a, b.symm⟩


def strOf (l : List Nat) : ByteArray := strOfNums (l.map fun n : Nat => (n : Int))
/-- string(b) of a slice of bytes -/
theorem Bytes.conv {P : Program} {w : World} {v : Value} {l : List Nat} (h : Bytes w v l) {src e dst : TypeId} (hs : P.underlying src = some (.slice e)) (he : P.underlying e = some (.int .u8)) (hd : P.underlying dst = some .string) :
    (convert src dst v).run P w = .ok (.string (strOf l)) w := by
  obtain ⟨⟨a, cap, rfl, h1, h2, h4, h3⟩, _⟩ := h
  rw [len_u8s]
  rcases h3 with h3 | ⟨b, off, rfl, _, hc⟩
  · have : l = [] := by simpa [u8s] using h3
    subst this
    cases a with
    | none => exact run_convert_bytes_nil (P := P) w src e hs he _ _ dst hd
    | some a =>
      rw [show ([] : List Nat).length = 0 from rfl, run_convert_bytes_string w src dst e _ _ cap hs he hd, run_bytesToString w a 0 cap [] (by simp [loadCells, loadCellsFrom])]
      rfl
  · refine run_convert_bytes_arg (P := P) w src e hs he b off l.length cap (l.map fun n : Nat => (n : Int)) (by simp) (fun i hi => ?_) dst hd
    rw [hc i (by rw [len_u8s]; exact hi)]
    simp [u8s, hi]

end Go.Mem
