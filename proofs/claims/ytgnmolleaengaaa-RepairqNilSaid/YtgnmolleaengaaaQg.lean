/- From an owned row of entries to a sorted one, and back. -/
import Derived.Test.YtgnmolleaengaaaQf
set_option linter.unusedVariables false
set_option linter.unusedSimpArgs false
set_option linter.unnecessarySimpa false
namespace Go.Proofs.Ytgnmolleaengaaa
open Go Go.Shelf Go.RowKit Go.Lib
open Go.Sort (HoldsK putRowK SWO flatK)

theorem flat_arr {w : World} [Inhabited (Ea w)] (D : List (Ea w)) (t : Nat) (ht : t < D.length * 9) : (eE.flat (D.map Subtype.val))[t]? = some (flatK encA 9 D.toArray)[t]! := by
  rw [Go.Sort.get_flatK encA 9 D.toArray t (by simpa using ht)]
  have hi : t / 9 < D.length := by omega
  have h := flat_get (E := eE) (D.map Subtype.val) (t / 9) D[t / 9].1 (t % 9) (by simp [hi]) (Nat.mod_lt _ (by decide))
  rw [show t / 9 * eE.k + t % 9 = t by show t / 9 * 9 + t % 9 = t; omega] at h
  rw [h]
  have hk : t % 9 < 9 := Nat.mod_lt _ (by decide)
  have e1 : D.toArray[t / 9]! = D[t / 9] := by simp [hi]
  rw [e1]
  show (ec D[t / 9].1).toList[t % 9]? = some ((ec D[t / 9].1).toList)[t % 9]!
  have hl : t % 9 < (ec D[t / 9].1).toList.length := hk
  rw [List.getElem?_eq_getElem hl, List.getElem!_eq_getElem?_getD, List.getElem?_eq_getElem hl]
  rfl

theorem own_holds {w : World} [Inhabited (Ea w)] {B g n cap : Nat} (D : List (Ea w)) (h : World.ownsRow w B 60 9 (.slice (some ⟨g, 0, none⟩) n cap) n (eE.flat (D.map Subtype.val))) (hn : D.length = n) : HoldsK encA 9 w g 0 D.toArray := by
  intro j hj
  have hj' : j < D.length * 9 := by simpa using hj
  refine ⟨?_, ?_⟩
  · have := h.cells rfl j _ (flat_arr D j hj')
    rw [add_off, Nat.zero_add] at this
    rw [Nat.zero_add]
    exact this
  · rw [Nat.zero_add]
    exact h.frozenAt _

theorem reown {w w' : World} [Inhabited (Ea w)] {B g n cap : Nat} {xs : List Value} (h : World.ownsRow w B 60 9 (.slice (some ⟨g, 0, none⟩) n cap) n xs) (d' : Array (Ea w)) (hd : d'.size = n) (e : w'.heap[g]? = (putRowK encA 9 w g 0 d').heap[g]?) :
    World.ownsRow w' B 60 9 (.slice (some ⟨g, 0, none⟩) n cap) n (eE.flat (d'.toList.map Subtype.val)) := by
  obtain ⟨hl, h⟩ := h
  have hfl : (eE.flat (d'.toList.map Subtype.val)).length = n * 9 := by rw [flat_len]; simp [hd]; rfl
  refine ⟨hfl, ?_⟩
  rcases h with ⟨h0, _⟩ | ⟨g', cap', cur, he, hB, hg, h1, h2, h3, h4⟩
  · cases h0
  · cases he
    refine .inr ⟨g, cap, Go.Sort.putCells id 0 (flatK encA 9 d') cur, rfl, hB, ?_, h1, h2, ?_, ?_⟩
    · rw [e]
      unfold putRowK Go.Sort.putRow Go.Sort.mapBlock
      simp [Array.getElem?_modify, hg, Go.Sort.onCells]
    · unfold Go.Sort.putCells
      simp [h3]
    · apply List.ext_getElem?
      intro t
      rw [List.getElem?_take]
      have hn9 : n * 9 ≤ cur.size := by rw [h3]; exact Nat.mul_le_mul_right 9 h1
      split
      · rename_i ht
        have ht2 : t < d'.toList.length * 9 := by simp [hd]; exact ht
        have hf := flat_arr d'.toList t ht2
        rw [hf]
        have hsz : t < (flatK encA 9 d').size := by simp [hd]; exact ht
        unfold Go.Sort.putCells
        simp only [Array.getElem?_toList, Array.getElem?_mapIdx]
        rw [Array.getElem?_eq_getElem (show t < cur.size by omega)]
        simp [hd, ht]
      · rename_i ht
        rw [List.getElem?_eq_none (by omega)]
end Go.Proofs.Ytgnmolleaengaaa
