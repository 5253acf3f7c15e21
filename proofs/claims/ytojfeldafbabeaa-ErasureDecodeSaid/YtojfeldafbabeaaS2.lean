/- The walk of same.Rows where both are the same rows; matrices as lists of rows. -/
import Derived.Test.YtojfeldafbabeaaC4
import Derived.Test.YtojfeldafbabeaaI2
set_option linter.unusedVariables false
set_option linter.unusedSimpArgs false
set_option linter.unnecessarySimpa false
namespace Go.Proofs.Ytojfeldafbabeaa
open Go.RowKit Go.Mem Go.Deep

def Yes' (w : World) (e : Ending) (w' : World) : Prop := e = .returned (.bool true) ∧ Below w.heap.size w w'

set_option maxHeartbeats 1000000 in
theorem sameRows_any (r : List (List Nat)) (va vb : Value) (w : World) (ha : Mat w va r) (hb : Mat w vb r) :
    Calls Try.prog 15 #[va, vb] w (Yes' w) := by
  obtain ⟨aa, acap, rfl, hal⟩ := ha.open
  obtain ⟨ba, bcap, rfl, hbl⟩ := hb.open
  obtain ⟨n, hn⟩ : ∃ n, n = r.length := ⟨_, rfl⟩
  rw [← hn] at ha hb hal ⊢
  have HN := Lib.hid hn
  have HA := Lib.hid ha
  have HB := Lib.hid hb
  have hnn : ((n : Int) != (n : Int)) = false := by simp
  clear hn ha hb hbl
  go_enter Try.func15, Try.ntmps15
  go_wp2_with fail
  go_loopw [5] (fun i wr => ∃ k : Nat, k ≤ n ∧ i = .int .i64 k ∧ Below w.heap.size w wr) (fun i _ => n - (intOf i).toNat)
  case atStart => exact ⟨0, by omega, rfl, Below.refl _ _⟩
  case round =>
    obtain ⟨k, hk, rfl, hbel⟩ := hrel
    have HW := Lib.hid hbel
    clear hbel
    by_cases hkn : k < n
    · obtain ⟨ab, ao, xa, rfl, hab, hxa, hba⟩ := (HA.out).cell (i := k) (by have := HN.out; omega)
      obtain ⟨bb, bo, xb, rfl, hbb, hxb, hbb2⟩ := (HB.out).cell (i := k) (by have := HN.out; omega)
      have hxa' := (HW.out.cell (p := ⟨ab, ao + k, none⟩) hab).trans hxa
      have hxb' := (HW.out.cell (p := ⟨bb, bo + k, none⟩) hbb).trans hxb
      have hba' := hba.below HW.out.drew (Nat.le_refl _)
      have hbb' := hbb2.below HW.out.drew (Nat.le_refl _)
      have hcva := hba'.conv (P := Try.prog) (src := 31) (e := 5) (dst := 9) Try.underlying31 Try.underlying5 Try.underlying9
      have hcvb := hbb'.conv (P := Try.prog) (src := 31) (e := 5) (dst := 9) Try.underlying31 Try.underlying5 Try.underlying9
      obtain ⟨S, hS⟩ : ∃ S, S = strOf (r.getD k []) := ⟨_, rfl⟩
      rw [← hS] at hcva hcvb
      clear hxa hxb hba hbb2 hba' hbb' hS
      go_wp2_with fail
      go_still (by kernel_rfl)
      go_wp2_with fail
      go_roundw
      case rel => exact ⟨k + 1, by omega, by go_num, HW.out.drew⟩
      case measure => simp [intOf]; omega
    · go_wp2_with fail
      go_ret
      exact ⟨rfl, HW.out⟩

/-- an n x n matrix as a list of rows -/
def lst (n : Nat) (t : Nat → Nat → GF.F) : List (List Nat) := (List.range n).map fun i => (List.range n).map fun j => (t i j).v
theorem lst_length (n : Nat) (t : Nat → Nat → GF.F) : (lst n t).length = n := by simp [lst]
theorem lst_row {n i : Nat} (t : Nat → Nat → GF.F) (hi : i < n) : (lst n t).getD i [] = (List.range n).map fun j => (t i j).v := by simp [lst, hi]
theorem lst_cell {n i j : Nat} (t : Nat → Nat → GF.F) (hi : i < n) (hj : j < n) : ((lst n t).getD i []).getD j 0 = (t i j).v := by rw [lst_row t hi]; simp [hj]
theorem ent_lst {n i j : Nat} (t : Nat → Nat → GF.F) (hi : i < n) (hj : j < n) : ent (lst n t) i j = t i j := by
  refine GF.F.ext ?_
  show ((lst n t).getD i []).getD j 0 % 256 = (t i j).v
  rw [lst_cell t hi hj]
  exact Nat.mod_eq_of_lt (t i j).lt
theorem lst_rowlen {n i : Nat} (t : Nat → Nat → GF.F) (hi : i < n) : ((lst n t).getD i []).length = n := by rw [lst_row t hi]; simp
theorem lst_sq {n : Nat} (t : Nat → Nat → GF.F) (h1 : 1 ≤ n) (h2 : n ≤ 32) : Sq (lst n t) := by
  unfold Sq
  rw [lst_length]
  exact ⟨h1, h2, fun i hi => lst_rowlen t hi⟩
theorem lst_congr {n : Nat} {t u : Nat → Nat → GF.F} (h : ∀ i j, i < n → j < n → t i j = u i j) : lst n t = lst n u := by
  unfold lst
  refine List.map_congr_left fun i hi => List.map_congr_left fun j hj => ?_
  rw [h i j (List.mem_range.1 hi) (List.mem_range.1 hj)]
theorem outRows_eq (n : Nat) (u : Nat → Nat → GF.F) : outRows n u = lst n (fun i j => u i (n + j)) := rfl

/-- Combine's sums, in the field -/
theorem sumTo_sm {c : List Nat} {rows : List (List Nat)} (f : Nat → GF.F) (t : Nat → Nat → GF.F) (j : Nat) : ∀ k, (∀ m, m < k → c.getD m 0 = (f m).v ∧ (rows.getD m []).getD j 0 = (t m j).v) →
    GF.sumTo c rows k j = (GF.sm k (fun m => f m * t m j)).v
  | 0, _ => rfl
  | k + 1, h => by
    have ih := sumTo_sm f t j k fun m hm => h m (by omega)
    obtain ⟨h1, h2⟩ := h k (by omega)
    show GF.sumTo c rows k j ^^^ GF.mul (c.getD k 0) ((rows.getD k []).getD j 0) = _
    rw [ih, h1, h2]
    rfl
theorem comb_lst {n i j : Nat} (a x : Nat → Nat → GF.F) (h1 : 1 ≤ n) (hi : i < n) (hj : j < n) : (GF.comb ((lst n a).getD i []) (lst n x)).getD j 0 = (GF.sm n (fun m => a i m * x m j)).v := by
  rw [GF.comb_getD _ _ _ (by rw [lst_rowlen x (by omega)]; exact hj), lst_length]
  exact sumTo_sm (a i) x j n fun m hm => ⟨lst_cell a hi hm, lst_cell x hm hj⟩
theorem fit_lst {n i : Nat} (a x : Nat → Nat → GF.F) (h1 : 1 ≤ n) (hi : i < n) : GF.Fit ((lst n a).getD i []) (lst n x) := by
  unfold GF.Fit
  rw [lst_rowlen a hi, lst_length]
  exact ⟨by omega, rfl, fun k hk => by rw [lst_rowlen x hk, lst_rowlen x (by omega)]⟩
theorem comb_lst_length {n i : Nat} (a x : Nat → Nat → GF.F) (h1 : 1 ≤ n) : (GF.comb ((lst n a).getD i []) (lst n x)).length = n := by
  rw [GF.comb_length, lst_rowlen x (by omega)]

/-- two matrices that are inverse to each other -/
theorem inv_of_pair {n : Nat} {a x : Nat → Nat → GF.F} (h1 : ∀ i j, i < n → j < n → GF.sm n (fun k => x i k * a k j) = GF.dl i j) (h2 : ∀ i j, i < n → j < n → GF.sm n (fun k => a i k * x k j) = GF.dl i j) :
    ∃ w, GF.gjTo n (GF.aug n x) n = some w ∧ ∀ i j, i < n → j < n → w i (n + j) = a i j := by
  obtain ⟨w, hw⟩ := GF.gjTo_of_left (a := x) (b := a) (n := n) h2
  refine ⟨w, hw, fun i j hi hj => ?_⟩
  obtain ⟨g1, _⟩ := GF.gjTo_some hw
  have e := GF.mm_assoc n (fun i k => w i (n + k)) x (fun k => a k j) i
  rw [GF.sm_congr (g := fun k => GF.dl i k * a k j) fun k hk => by rw [g1 i k hi hk], GF.sm_dl hi,
    GF.sm_congr (g := fun l => w i (n + l) * GF.dl l j) fun l hl => by rw [h1 l j hl hj], GF.sm_dl' hj (fun l => w i (n + l))] at e
  exact e.symm

end Go.Proofs.Ytojfeldafbabeaa
