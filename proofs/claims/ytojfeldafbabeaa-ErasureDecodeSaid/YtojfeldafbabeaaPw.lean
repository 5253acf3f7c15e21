/- Plain facts of code words: the first k rows are the data; a longer code; the rows of a sum. -/
import Derived.Test.YtojfeldafbabeaaPl
import Derived.Test.YtojfeldafbabeaaS2
set_option linter.unusedVariables false
set_option linter.unusedSimpArgs false
set_option linter.unnecessarySimpa false
namespace Go.Proofs.Ytojfeldafbabeaa
open Go.RowKit Go.Mem Go.Deep

/-- every entry is a byte -/
def Low (rows : List (List Nat)) : Prop := ∀ i j, (rows.getD i []).getD j 0 < 256
theorem ent_v {rows : List (List Nat)} (h : Low rows) (i j : Nat) : (ent rows i j).v = (rows.getD i []).getD j 0 := Nat.mod_eq_of_lt (h i j)
theorem _root_.Go.Mem.Mat.low {w : World} {v : Value} {r : List (List Nat)} (h : Mat w v r) : Low r := fun i j => h.lt i j

theorem comb_gen {k a j : Nat} {data : List (List Nat)} (hl : data.length = k) (hk : k ≤ 64) (ha : a < k + 64) (hd : Low data) (hj : j < (data.getD 0 []).length) : (GF.comb (genRow k a) data).getD j 0 = (GF.sm k (fun q => GF.gen k a q * ent data q j)).v := by
  rw [GF.comb_getD _ _ _ hj, hl]
  exact sumTo_sm (GF.gen k a) (ent data) j k fun q hq => ⟨by rw [genRow_getD _ _ _ hq, genAt_gen ha (by omega)], (ent_v hd q j).symm⟩
theorem ext_getD {a b : List Nat} (hl : a.length = b.length) (h : ∀ j, j < a.length → a.getD j 0 = b.getD j 0) : a = b := by
  refine List.ext_getElem hl fun j h1 h2 => ?_
  have := h j h1
  simpa [h1, h2] using this
/-- row a < k of a word is row a of the data -/
theorem comb_data {k a : Nat} {data : List (List Nat)} (hl : data.length = k) (hk : k ≤ 64) (ha : a < k) (hv : Level data) (hd : Low data) : GF.comb (genRow k a) data = data.getD a [] := by
  have hlen : (GF.comb (genRow k a) data).length = (data.getD a []).length := by rw [GF.comb_length]; exact (hv a (by omega)).symm
  refine ext_getD hlen fun j hj => ?_
  rw [GF.comb_length] at hj
  rw [comb_gen hl hk (by omega) hd hj, ← ent_v hd]
  refine congrArg GF.F.v ?_
  rw [GF.sm_congr (g := fun q => GF.dl a q * ent data q j) fun q _ => by unfold GF.gen; rw [if_pos ha]]
  exact GF.sm_dl ha (fun q => ent data q j)
theorem ext_rows {a b : List (List Nat)} (hl : a.length = b.length) (h : ∀ j, j < a.length → a.getD j [] = b.getD j []) : a = b := by
  refine List.ext_getElem hl fun j h1 h2 => ?_
  have := h j h1
  simpa [h1, h2] using this
theorem word_data {k : Nat} {data : List (List Nat)} (hl : data.length = k) (hk : k ≤ 64) (hv : Level data) (hd : Low data) : wordTo k data k = data := by
  refine ext_rows (by rw [wordTo_len, hl]) fun a ha => ?_
  rw [wordTo_len] at ha
  rw [wordTo_getD _ _ _ _ ha, comb_data hl hk ha hv hd]
theorem word_take (k : Nat) (data : List (List Nat)) {a b : Nat} (h : a ≤ b) : (wordTo k data b).take a = wordTo k data a := by
  unfold wordTo
  rw [← List.map_take, List.take_range, Nat.min_eq_left h]
theorem word_rowlen {k a : Nat} {data : List (List Nat)} {i : Nat} (hi : i < a) : ((wordTo k data a).getD i []).length = (data.getD 0 []).length := by rw [wordTo_getD _ _ _ _ hi, GF.comb_length]
theorem word_level (k : Nat) (data : List (List Nat)) (a : Nat) : Level (wordTo k data a) := fun i hi => by
  rw [wordTo_len] at hi
  rw [word_rowlen hi, word_rowlen (by omega)]
theorem level_of {rows : List (List Nat)} {n : Nat} (h : ∀ i, i < rows.length → (rows.getD i []).length = n) : Level rows := fun i hi => by rw [h i hi, h 0 (by omega)]
end Go.Proofs.Ytojfeldafbabeaa
