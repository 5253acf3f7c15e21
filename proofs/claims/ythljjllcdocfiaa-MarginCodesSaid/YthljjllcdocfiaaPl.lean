/- Plain law of Margin: bits, fragments, intact fragments, the margin, survival. -/
import Derived.Test.YthljjllcdocfiaaBs
import Derived.Laws.BitsAllLaws
set_option linter.unusedVariables false
set_option linter.unusedSimpArgs false
set_option linter.unnecessarySimpa false
namespace Go.Proofs.Ythljjllcdocfiaa
open Go Go.RowKit Go.MapKept

/-- bit i of a number in two's complement -/
def bitI (s : Int) (i : Nat) : Bool := s / 2 ^ i % 2 == 1
theorem and_one (x : Int) : bits .and .i64 x 1 = x % 2 := by
  have e : (BitVec.ofInt 64 x &&& BitVec.ofInt 64 1).toNat = (x % 2).toNat := by
    have h1 : (BitVec.ofInt 64 1) = 1#64 := rfl
    rw [h1, BitVec.toNat_and]
    simp only [BitVec.toNat_ofInt, BitVec.toNat_ofNat]
    rw [show (1 % 2 ^ 64 : Nat) = 1 from rfl, Nat.and_one_is_mod]
    omega
  show IntKind.i64.wrap ((BitVec.ofInt 64 x &&& BitVec.ofInt 64 1).toNat : Int) = _
  rw [e]
  have h0 : 0 ≤ x % 2 := by omega
  have h2 : x % 2 < 2 := by omega
  simp [IntKind.wrap, IntKind.bits, IntKind.signed]
  omega
theorem bit_test (x : Int) (i : Nat) : (bits .and .i64 (x / 2 ^ i) 1 == 1) = bitI x i := by
  rw [and_one]
  rfl
theorem bitI_nat (n i : Nat) : bitI (n : Int) i = n.testBit i := by
  unfold bitI
  rw [Nat.testBit_eq_decide_div_mod_eq]
  have : ((n : Int) / 2 ^ i % 2) = ((n / 2 ^ i % 2 : Nat) : Int) := by push_cast; rfl
  rw [this]
  by_cases h : n / 2 ^ i % 2 = 1
  · simp [h]
  · have : ((n / 2 ^ i % 2 : Nat) : Int) ≠ 1 := by omega
    simp [h]
    omega
theorem wrap64_small {x : Int} (h0 : 0 ≤ x) (h1 : x < 9223372036854775808) : wrap64 x = x := IntWalk.wrap64_in _ (by omega)
theorem two_pow_cast (f : Nat) : ((2 : Int) ^ f) = ((2 ^ f : Nat) : Int) := by push_cast; rfl
theorem pow_small {f : Nat} (hf : f < 62) : 2 ^ f < 4611686018427387904 := by
  have : 2 ^ f < 2 ^ 62 := Nat.pow_lt_pow_right (by decide) hf
  simpa using this
theorem bits_nat (op : BinOp) (g : Nat → Nat → Nat) (hop : op = .or ∧ g = (· ||| ·) ∨ op = .and ∧ g = (· &&& ·)) (a b : Nat) (ha : a < 4611686018427387904) (hb : b < 4611686018427387904) : bits op .i64 (a : Int) (b : Int) = ((g a b : Nat) : Int) := by
  have h1 := ofInt_u64 a (by omega)
  have h2 := ofInt_u64 b (by omega)
  have hw : ∀ x : Nat, x < 9223372036854775808 → IntKind.i64.wrap (x : Int) = x := fun x hx => by
    simp [IntKind.wrap, IntKind.bits, IntKind.signed]
    omega
  rcases hop with ⟨rfl, rfl⟩ | ⟨rfl, rfl⟩
  · show IntKind.i64.wrap ((BitVec.ofInt 64 (a : Int) ||| BitVec.ofInt 64 (b : Int)).toNat : Int) = _
    rw [BitVec.toNat_or, h1, h2]
    have : a ||| b < 2 ^ 63 := Nat.or_lt_two_pow (by omega) (by omega)
    exact hw _ (by omega)
  · show IntKind.i64.wrap ((BitVec.ofInt 64 (a : Int) &&& BitVec.ofInt 64 (b : Int)).toNat : Int) = _
    rw [BitVec.toNat_and, h1, h2]
    have : a &&& b < 2 ^ 63 := Nat.and_lt_two_pow _ (by omega)
    exact hw _ (by omega)
theorem or_pow (a f : Nat) (ha : a < 4611686018427387904) (hf : f < 62) : bits .or .i64 (a : Int) (wrap64 (2 ^ f)) = ((a ||| 2 ^ f : Nat) : Int) := by
  have h2 := pow_small hf
  rw [two_pow_cast]
  generalize 2 ^ f = p at *
  rw [wrap64_small (by omega) (by omega)]
  exact bits_nat .or _ (.inl ⟨rfl, rfl⟩) a p ha h2
theorem or_lt {a f m : Nat} (ha : a < 2 ^ m) (hf : f < m) : a ||| 2 ^ f < 2 ^ m := Nat.or_lt_two_pow ha (Nat.pow_lt_pow_right (by decide) hf)

/-- is the copy not ignored -/
def cnt (c : Cp) : Bool := decide (0 ≤ c.1) && decide (c.1 < 8)
def validB (k st : Int) : Bool := decide (1 ≤ k) && decide (k ≤ 6) && decide (1 ≤ st) && decide (st ≤ 4)
/-- the set of the fragments with a good piece -/
def frS (s : Nat) (l : List Cp) (a : Nat) : Nat := l.foldl (fun a c => if cnt c && bitI c.2.2 s then a ||| 2 ^ c.1.toNat else a) a
theorem drop_get {α : Type} {l : List α} {k : Nat} {c : α} (h : l[k]? = some c) : l.drop k = c :: l.drop (k + 1) := by
  have hk := (List.getElem?_eq_some_iff.1 h).1
  rw [List.drop_eq_getElem_cons hk]
  congr 1
  exact (List.getElem?_eq_some_iff.1 h).2
theorem frS_step {s : Nat} {l : List Cp} {k : Nat} {c : Cp} (h : l[k]? = some c) (g : Nat) : frS s (l.drop k) g = frS s (l.drop (k + 1)) (if cnt c && bitI c.2.2 s then g ||| 2 ^ c.1.toNat else g) := by
  rw [drop_get h]
  rfl
/-- the elements of a set of small numbers -/
def memL (n : Nat) : List Int := ((List.range 63).filter n.testBit).map fun i : Nat => (i : Int)
def memK (n k : Nat) : List Int := ((List.range k).filter n.testBit).map fun i : Nat => (i : Int)
theorem memK_succ (n k : Nat) : memK n (k + 1) = memK n k ++ if n.testBit k then [(k : Int)] else [] := by
  unfold memK
  rw [List.range_succ, List.filter_append, List.map_append]
  cases h : n.testBit k <;> simp [h]
theorem memK_len (n k : Nat) : (memK n k).length ≤ k := by
  unfold memK
  rw [List.length_map]
  have := List.length_filter_le n.testBit (List.range k)
  simpa using this
/-- has fragment f a good piece of stripe s -/
def good (l : List Cp) (s f : Nat) : Bool := l.any fun c => c.1 == (f : Int) && bitI c.2.2 s
theorem frS_bit (s : Nat) (l : List Cp) (a f : Nat) : (frS s l a).testBit f = (a.testBit f || (decide (f < 8) && good l s f)) := by
  unfold good
  induction l generalizing a with
  | nil => simp [frS]
  | cons c l ih =>
    show (frS s l (if cnt c && bitI c.2.2 s then a ||| 2 ^ c.1.toNat else a)).testBit f = _
    rw [ih, List.any_cons]
    cases h1 : cnt c with
    | false =>
      simp only [Bool.false_and, Bool.false_eq_true, if_false]
      by_cases hf : f < 8
      · have : (c.1 == (f : Int)) = false := by
          simp only [beq_eq_false_iff_ne]
          intro q
          simp [cnt, q] at h1
          omega
        rw [this]
        simp
      · simp [hf]
    | true =>
      cases h2 : bitI c.2.2 s with
      | false => simp
      | true =>
        simp only [Bool.true_and, if_true, Nat.testBit_or, Nat.testBit_two_pow, Bool.and_true]
        simp [cnt] at h1
        have e : decide (c.1.toNat = f) = (decide (f < 8) && (c.1 == (f : Int))) := by
          by_cases q : c.1 = (f : Int)
          · have : c.1.toNat = f := by omega
            simp [q]
            omega
          · have : ¬ c.1.toNat = f := by omega
            simp [q, this]
        rw [e]
        cases a.testBit f <;> cases decide (f < 8) <;> cases (c.1 == (f : Int)) <;> simp
/-- the intact fragments -/
def intactL (l : List Cp) (s : Int) : List Int := if 0 ≤ s ∧ s < 4 then ((List.range 8).filter (good l s.toNat)).map (fun i : Nat => (i : Int)) else []
theorem mem_frS (l : List Cp) (s : Nat) (hs : s < 4) : memL (frS s l 0) = intactL l s := by
  unfold memL intactL
  rw [if_pos (by omega)]
  congr 1
  rw [show (List.range 63) = List.range 8 ++ (List.range 55).map (8 + ·) by decide, List.filter_append]
  have e1 : (List.range 8).filter (frS s l 0).testBit = (List.range 8).filter (good l (s : Int).toNat) := by
    refine List.filter_congr fun f hf => ?_
    rw [frS_bit]
    simp at hf
    simp [hf]
  have e2 : ((List.range 55).map (8 + ·)).filter (frS s l 0).testBit = [] := by
    rw [List.filter_eq_nil_iff]
    intro f hf
    simp at hf
    obtain ⟨x, _, rfl⟩ := hf
    rw [frS_bit]
    simp
    omega
  rw [e1, e2, List.append_nil]
theorem frS_lt (s : Nat) (l : List Cp) : frS s l 0 < 256 := by
  have h : frS s l 0 < 2 ^ 8 := Nat.lt_pow_two_of_testBit _ fun i hi => by rw [frS_bit]; simp; omega
  exact h
theorem intact_len (l : List Cp) (s : Int) : (intactL l s).length ≤ 8 := by
  unfold intactL
  split
  · rw [List.length_map]
    have := List.length_filter_le (good l s.toNat) (List.range 8)
    simpa using this
  · simp
/-- the least number of intact fragments of the first stripes -/
def leastN (l : List Cp) : Nat → Nat
  | 0 => 8
  | n + 1 => min (leastN l n) (intactL l n).length
def margF (k st : Int) (l : List Cp) : Int × Int := if validB k st then ((leastN l st.toNat : Int) - k, 0) else (0, 5)
/-- is the number in the list -/
def hasI (l : List Int) (x : Int) : Bool := l.contains x
theorem hasI_iff {l : List Int} {x : Int} : hasI l x = true ↔ x ∈ l := by unfold hasI; exact List.contains_iff_mem
theorem hasI_take {l : List Int} {x : Int} {k : Nat} (hk : k < l.length) : hasI (l.take (k + 1)) x = (hasI (l.take k) x || x == l.getD k 0) := by
  rw [Bool.eq_iff_iff, Bool.or_eq_true, hasI_iff, hasI_iff, List.take_add_one, List.mem_append, List.getElem?_eq_getElem hk, beq_iff_eq, show l.getD k 0 = l[k] by simp [hk]]
  simp only [Option.toList, List.mem_singleton]
def withoutL (l : List Cp) (down : List Int) : List Cp := l.filter fun c => !hasI down c.2.1
def survF (k st : Int) (l : List Cp) (down : List Int) : Bool := (margF k st (withoutL l down)).2 == 0 && decide (0 ≤ (margF k st (withoutL l down)).1)
end Go.Proofs.Ythljjllcdocfiaa
