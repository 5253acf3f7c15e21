/- Slices of fragments in memory; what the rows of a code word say about the whole word. No program in sight. -/
import Derived.Test.YtojfeldafbabeaaK6
import Derived.Test.YtojfeldafbabeaaI2
set_option linter.unusedVariables false
set_option linter.unusedSimpArgs false
set_option linter.unnecessarySimpa false
namespace Go.Proofs.Ytojfeldafbabeaa
open Go.RowKit Go.Mem Go.Deep

abbrev Frag := Int × List Nat
def fragD (fs : List Frag) (i : Nat) : Frag := fs.getD i (0, [])
/-- a slice of fragments -/
def Frags (w : World) (v : Value) (fs : List Frag) : Prop :=
  ∃ (a : Option Addr) (cap : Nat), v = .slice a fs.length cap ∧ fs.length ≤ 140737488351232 ∧ ∀ i, i < fs.length → ∃ b off y, a = some ⟨b, off, none⟩ ∧ b < w.heap.size ∧
    w.cell? ⟨b, off + i * 2, none⟩ = some (.int .i64 (fragD fs i).1) ∧ w.cell? ⟨b, off + i * 2 + 1, none⟩ = some y ∧ Bytes w y (fragD fs i).2
theorem Frags.below {w w' : World} {v : Value} {fs : List Frag} {B : Nat} (h : Frags w v fs) (hb : Below B w w') (hB : w.heap.size ≤ B) : Frags w' v fs := by
  obtain ⟨a, cap, hv, hl, hi⟩ := h
  refine ⟨a, cap, hv, hl, fun i hlt => ?_⟩
  obtain ⟨b, off, y, ha, hbs, h0, h1, h2⟩ := hi i hlt
  exact ⟨b, off, y, ha, by have := hb.size; omega, (hb.cell (p := ⟨b, off + i * 2, none⟩) (by show b < B; omega)).trans h0, (hb.cell (p := ⟨b, off + i * 2 + 1, none⟩) (by show b < B; omega)).trans h1, h2.below hb hB⟩
theorem Frags.nil (w : World) : Frags w (.slice none 0 0) [] := ⟨none, 0, rfl, by decide, fun i hi => by simp at hi⟩
theorem Frags.open {w : World} {v : Value} {fs : List Frag} (h : Frags w v fs) : ∃ a cap, v = .slice a fs.length cap ∧ fs.length ≤ 140737488351232 := by
  obtain ⟨a, cap, hv, hl, _⟩ := h
  exact ⟨a, cap, hv, hl⟩
theorem Frags.cell {w : World} {a : Option Addr} {n cap : Nat} {fs : List Frag} (h : Frags w (.slice a n cap) fs) {i : Nat} (hi : i < fs.length) : ∃ b off y, a = some ⟨b, off, none⟩ ∧ b < w.heap.size ∧
    w.cell? ⟨b, off + i * 2, none⟩ = some (.int .i64 (fragD fs i).1) ∧ w.cell? ⟨b, off + i * 2 + 1, none⟩ = some y ∧ Bytes w y (fragD fs i).2 := by
  obtain ⟨a', cap', hv, hl, hc⟩ := h
  cases hv
  exact hc i hi

def rowsTo (fs : List Frag) (j : Nat) : List (List Nat) := (List.range j).map fun i => (fragD fs i).2
theorem rowsTo_len (fs : List Frag) (j : Nat) : (rowsTo fs j).length = j := by simp [rowsTo]
theorem rowsTo_succ (fs : List Frag) (j : Nat) : rowsTo fs (j + 1) = rowsTo fs j ++ [(fragD fs j).2] := by simp [rowsTo, List.range_succ]
theorem rowsTo_getD (fs : List Frag) (j i : Nat) (hi : i < j) : (rowsTo fs j).getD i [] = (fragD fs i).2 := by simp [rowsTo, hi]

/-- is q the index of a fragment before j -/
def seenTo (fs : List Frag) : Nat → Int → Bool
  | 0, _ => false
  | j + 1, q => seenTo fs j q || (fragD fs j).1 == q
/-- does an index come twice before j -/
def dupTo (fs : List Frag) : Nat → Bool
  | 0 => false
  | j + 1 => dupTo fs j || seenTo fs j (fragD fs j).1
theorem seenTo_iff (fs : List Frag) (q : Int) : ∀ j, seenTo fs j q = true ↔ ∃ i, i < j ∧ (fragD fs i).1 = q
  | 0 => by simp [seenTo]
  | j + 1 => by
    rw [seenTo, Bool.or_eq_true, seenTo_iff fs q j]
    constructor
    · rintro (⟨i, hi, h⟩ | h)
      · exact ⟨i, by omega, h⟩
      · exact ⟨j, by omega, by simpa using h⟩
    · rintro ⟨i, hi, h⟩
      by_cases e : i = j
      · subst e; right; simpa using h
      · left; exact ⟨i, by omega, h⟩
theorem dupTo_iff (fs : List Frag) : ∀ j, dupTo fs j = true ↔ ∃ a b, a < b ∧ b < j ∧ (fragD fs a).1 = (fragD fs b).1
  | 0 => by simp [dupTo]
  | j + 1 => by
    rw [dupTo, Bool.or_eq_true, dupTo_iff fs j, seenTo_iff]
    constructor
    · rintro (⟨a, b, h1, h2, h3⟩ | ⟨i, hi, h⟩)
      · exact ⟨a, b, h1, by omega, h3⟩
      · exact ⟨i, j, hi, by omega, h⟩
    · rintro ⟨a, b, h1, h2, h3⟩
      by_cases e : b = j
      · subst e; right; exact ⟨a, h1, h3⟩
      · left; exact ⟨a, b, h1, by omega, h3⟩

/-- the generator rows of the first k fragments -/
def genMat (k : Nat) (fs : List Frag) : List (List Nat) := (List.range k).map fun i => genRow k (fragD fs i).1.toNat
def invOf (n : Nat) (rows : List (List Nat)) : List (List Nat) := match GF.gjTo n (GF.aug n (ent rows)) n with | some u => outRows n u | none => []
def dataOf (k : Nat) (fs : List Frag) : List (List Nat) := (List.range k).map fun i => GF.comb ((invOf k (genMat k fs)).getD i []) (rowsTo fs k)
def wordOf (k m : Nat) (fs : List Frag) : List (List Nat) := wordTo k (dataOf k fs) (k + m)

def InR (k m : Nat) (fs : List Frag) (j : Nat) : Prop := ∀ i, i < j → 0 ≤ (fragD fs i).1 ∧ (fragD fs i).1 < (k + m : Nat)
def Fits (k m : Nat) (fs : List Frag) (j : Nat) : Prop := ∀ i, i < j → (wordOf k m fs).getD (fragD fs i).1.toNat [] = (fragD fs i).2
open Classical in
/-- what Decode says: 0 for OK -/
noncomputable def verdict (k m : Nat) (fs : List Frag) : Int :=
  if ¬ InR k m fs fs.length then 1 else if dupTo fs fs.length = true then 8 else if fs.length < k then 10 else if ¬ Level (rowsTo fs fs.length) then 11 else if ¬ Fits k m fs fs.length then 11 else 0
end Go.Proofs.Ytojfeldafbabeaa
