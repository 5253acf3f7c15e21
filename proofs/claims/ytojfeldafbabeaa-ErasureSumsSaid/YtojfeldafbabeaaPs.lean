/- Plain law: the rows of a sum are the sums of the rows. -/
import Derived.Test.YtojfeldafbabeaaPw
set_option linter.unusedVariables false
set_option linter.unusedSimpArgs false
set_option linter.unnecessarySimpa false
namespace Go.Proofs.Ytojfeldafbabeaa
open Go.RowKit Go.Mem Go.Deep

def zVal (c : Nat) (x y : List (List Nat)) (i j : Nat) : Nat := (x.getD i []).getD j 0 ^^^ GF.mul c ((y.getD i []).getD j 0)
def zRow (c : Nat) (x y : List (List Nat)) (n i : Nat) : List Nat := (List.range n).map (zVal c x y i)
def zTo (c : Nat) (x y : List (List Nat)) (n a : Nat) : List (List Nat) := (List.range a).map (zRow c x y n)
theorem zRow_len (c : Nat) (x y : List (List Nat)) (n i : Nat) : (zRow c x y n i).length = n := by simp [zRow]
theorem zRow_at (c : Nat) (x y : List (List Nat)) (n i : Nat) {j : Nat} (hj : j < n) : (zRow c x y n i).getD j 0 = zVal c x y i j := by simp [zRow, hj]
theorem zTo_len (c : Nat) (x y : List (List Nat)) (n a : Nat) : (zTo c x y n a).length = a := by simp [zTo]
theorem zTo_succ (c : Nat) (x y : List (List Nat)) (n a : Nat) : zTo c x y n (a + 1) = zTo c x y n a ++ [zRow c x y n a] := by simp [zTo, List.range_succ]
theorem zTo_at (c : Nat) (x y : List (List Nat)) (n a : Nat) {i : Nat} (hi : i < a) : (zTo c x y n a).getD i [] = zRow c x y n i := by simp [zTo, hi]
theorem zVal_lt {c : Nat} {x y : List (List Nat)} (hc : c < 256) (hx : Low x) (i j : Nat) : zVal c x y i j < 256 := GF.xor_lt (hx i j) (GF.mul_lt hc)
theorem zRow_lt {c : Nat} {x y : List (List Nat)} (hc : c < 256) (hx : Low x) (n i : Nat) : ∀ v ∈ zRow c x y n i, v < 256 := fun v hv => by
  obtain ⟨j, _, rfl⟩ := List.mem_map.1 hv
  exact zVal_lt hc hx i j

theorem word_sum {k i j n c : Nat} {x y : List (List Nat)} (hk : 1 ≤ k) (hk6 : k ≤ 64) (hi : i < k + 64) (hc : c < 256) (hxl : x.length = k) (hyl : y.length = k) (hxn : ∀ q, q < k → (x.getD q []).length = n) (hyn : ∀ q, q < k → (y.getD q []).length = n) (hxlow : Low x) (hylow : Low y) (hj : j < n) :
    (GF.comb (genRow k i) (zTo c x y n k)).getD j 0 = (GF.comb (genRow k i) x).getD j 0 ^^^ GF.mul c ((GF.comb (genRow k i) y).getD j 0) := by
  have hzlow : Low (zTo c x y n k) := fun q r => by
    by_cases hq : q < k
    · rw [zTo_at _ _ _ _ _ hq]; exact GF.getD_lt (zRow_lt hc hxlow n q) r
    · have : (zTo c x y n k).getD q [] = [] := by rw [List.getD_eq_getElem?_getD, List.getElem?_eq_none (by rw [zTo_len]; omega)]; rfl
      rw [this]; simp
  rw [comb_gen (zTo_len _ _ _ _ _) hk6 hi hzlow (by rw [zTo_at _ _ _ _ _ (by omega), zRow_len]; exact hj), comb_gen hxl hk6 hi hxlow (by rw [hxn 0 (by omega)]; exact hj), comb_gen hyl hk6 hi hylow (by rw [hyn 0 (by omega)]; exact hj)]
  have e : GF.sm k (fun q => GF.gen k i q * ent (zTo c x y n k) q j) = GF.sm k (fun q => GF.gen k i q * ent x q j) + (⟨c, hc⟩ : GF.F) * GF.sm k (fun q => GF.gen k i q * ent y q j) := by
    rw [GF.sm_mul, ← GF.sm_add]
    refine GF.sm_congr fun q hq => ?_
    have h : ent (zTo c x y n k) q j = ent x q j + (⟨c, hc⟩ : GF.F) * ent y q j := by
      refine GF.F.ext ?_
      rw [ent_v hzlow, GF.F.v_add, GF.F.v_mul, ent_v hxlow, ent_v hylow, zTo_at _ _ _ _ _ hq, zRow_at _ _ _ _ _ hj]
      rfl
    rw [h, GF.F.mul_add, GF.F.mul_left_comm]
  rw [e, GF.F.v_add, GF.F.v_mul]
end Go.Proofs.Ytojfeldafbabeaa
