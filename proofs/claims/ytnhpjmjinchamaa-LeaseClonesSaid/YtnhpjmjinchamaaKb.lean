/- The reference's Clone. -/
import Derived.Test.YtnhpjmjinchamaaDb
import Derived.Lib.ReflectliteSwap
set_option linter.unusedVariables false
set_option linter.unusedSimpArgs false
set_option linter.unnecessarySimpa false
namespace Go.Proofs.Ytnhpjmjinchamaa
open Go Go.RowKit

noncomputable def siR : TypeInfo := (Try.prog.info? 39).get (by kernel_rfl)
theorem siR_info : Try.prog.info? 39 = some siR := by kernel_rfl
theorem siR_size : siR.size = 99 := by kernel_rfl

theorem sure_ptr (w : World) (a : Addr) : (Instr.sureAddr (.pointer (some a))).run Try.prog w = .ok a w := by simp [Instr.sureAddr, go_sem]
theorem run_load39 {w : World} {b : Nat} {vs : List Value} (hs : vs.length = 99) (hc : ∀ k v, vs[k]? = some v → w.cell? ⟨b, k, none⟩ = some v) :
    (Instr.loadAt 39 (.pointer (some ⟨b, 0, none⟩))).run Try.prog w = .ok (.agg vs.toArray) w := by
  have := Lib.rl_loadVar_cells (P := Try.prog) 39 siR siR_info Try.isAgg39 b 0 vs (by rw [siR_size]; exact hs) w (fun k v h => by rw [Nat.zero_add]; exact hc k v h)
  unfold Instr.loadAt
  simp only [sure_ptr, Sem.run_bind, Result.andThen_ok]
  exact this
theorem run_store39 {w : World} {b : Nat} {vs : List Value} (hs : vs.length = 99) (h1 : ∀ v ∈ vs, v.oneCell' = true) (hc : ∀ k, k < 99 → (w.cell? ⟨b, k, none⟩).isSome = true) (hf : Thaw w b) :
    (Instr.storeAt 39 (.pointer (some ⟨b, 0, none⟩)) (.agg vs.toArray)).run Try.prog w = .ok () (w.setCells b 0 vs) := by
  have := Lib.rl_storeVar_cells (P := Try.prog) 39 siR siR_info b 0 vs (by rw [siR_size]; exact hs) h1 w (fun k hk => by rw [Nat.zero_add]; exact hc k (by omega)) (fun k _ => hf _)
  unfold Instr.storeAt
  simp only [sure_ptr, Sem.run_bind, Result.andThen_ok]
  exact this

section
variable {ops : Array Oper} {rest : List Oper} {o : Oper} {a : Act} {Q : Exit → Act → World → Prop} {w : World}
theorem wp_load39 (x : Operand) (hg : o.guard = none) (hop : o.op = Op.load 39 x) {b : Nat} (hx : a.eval x = .pointer (some ⟨b, 0, none⟩)) {vs : List Value} (hs : vs.length = 99) (hc : ∀ k v, vs[k]? = some v → w.cell? ⟨b, k, none⟩ = some v)
    (hK : wpList Try.prog ops Q rest (a.put o.dst (.agg vs.toArray)) w) : wpList Try.prog ops Q (o :: rest) a w := by
  refine wpList_plain hg fun K' hK' => ?_
  unfold Oper.wp
  simp only [execOp, hop, hx, Sem.run_bind, run_load39 hs hc, Result.andThen]
  exact hK' _ _ hK
theorem wp_store39 (x y : Operand) (hg : o.guard = none) (hop : o.op = Op.store 39 x y) {b : Nat} (hx : a.eval x = .pointer (some ⟨b, 0, none⟩)) {vs : List Value} (hy : a.eval y = .agg vs.toArray) (hs : vs.length = 99) (h1 : ∀ v ∈ vs, v.oneCell' = true) (hc : ∀ k, k < 99 → (w.cell? ⟨b, k, none⟩).isSome = true) (hf : Thaw w b)
    (hK : ∀ w', Hid (w' = w.setCells b 0 vs) → wpList Try.prog ops Q rest (a.put o.dst undef) w') : wpList Try.prog ops Q (o :: rest) a w := by
  refine wpList_plain hg fun K' hK' => ?_
  unfold Oper.wp
  simp only [execOp, hop, hx, hy, Sem.run_bind, run_store39 hs h1 hc hf, Result.andThen]
  exact hK' _ _ (hK _ rfl)
end

/-- all cells of a reference table -/
theorem RfAt.cells {w : World} {B rb : Nat} {R : Rf} (h : RfAt w B rb R) : ∃ vs : List Value, vs.length = 99 ∧ (∀ v ∈ vs, v.oneCell' = true) ∧ ∀ k v, vs[k]? = some v → w.cell? ⟨rb, k, none⟩ = some v := by
  have key : ∀ k, k < 99 → ∃ v, w.cell? ⟨rb, k, none⟩ = some v ∧ v.oneCell' = true := fun k hk => by
    by_cases h1 : k < 96
    · have := h.giv (k / 8) (k % 8) (by omega) (by omega)
      rw [show k / 8 * 8 + k % 8 = k by omega] at this
      exact ⟨_, this, rfl⟩
    by_cases h2 : k = 96
    · subst h2
      obtain ⟨vL, h1, h2, _⟩ := h.row
      obtain ⟨a, c, rfl⟩ := rows_val h2
      exact ⟨_, h1, rfl⟩
    by_cases h3 : k = 97
    · subst h3; exact ⟨_, h.num, rfl⟩
    obtain rfl : k = 98 := by omega
    exact ⟨_, h.cnt, rfl⟩
  refine ⟨(List.range 99).map fun k => (w.cell? ⟨rb, k, none⟩).getD undef, by simp, fun v hv => ?_, fun k v hv => ?_⟩
  · simp only [List.mem_map, List.mem_range] at hv
    obtain ⟨k, hk, rfl⟩ := hv
    obtain ⟨v, h1, h2⟩ := key k hk
    rw [h1]
    exact h2
  · have hk : k < 99 := by simpa using (List.getElem?_eq_some_iff.1 hv).1
    obtain ⟨u, h1, h2⟩ := key k hk
    simp [List.getElem?_map, List.getElem?_range hk] at hv
    rw [← hv, h1]
    rfl

theorem below_setCells {B b : Nat} (hb : B ≤ b) : ∀ (vs : List Value) (o : Nat) (w0 w : World), Below B w0 w → Below B w0 (w.setCells b o vs) ∧ (w.setCells b o vs).heap.size = w.heap.size
  | [], _, _, _, h => ⟨h, rfl⟩
  | v :: vs, o, w0, w, h => by
    rw [World.setCells]
    have := below_setCells hb vs (o + 1) w0 _ (h.setCell (p := ⟨b, o, none⟩) hb v)
    exact ⟨this.1, this.2.trans (by simp)⟩

/-- the copied block, before its list is laid -/
structure Rx (w : World) (bx rb : Nat) (W : World) : Prop where
  below : Below w.heap.size w W
  size : W.heap.size = w.heap.size + 1
  thaw : Thaw W bx
  cell : ∀ k, k < 99 → W.cell? ⟨bx, k, none⟩ = w.cell? ⟨rb, k, none⟩

theorem rx_of {w : World} {rb : Nat} {z : Array Value} {vs : List Value} (hz : z.size = 99) (hs : vs.length = 99) (hc : ∀ k v, vs[k]? = some v → w.cell? ⟨rb, k, none⟩ = some v) : Rx w w.heap.size rb ((w.alloc (.cells z 39)).setCells w.heap.size 0 vs) := by
  have h1 := below_setCells (Nat.le_refl w.heap.size) vs 0 w (w.alloc (.cells z 39)) (below_alloc _ _)
  refine ⟨h1.1, by rw [h1.2]; simp, fun i => ?_, fun k hk => ?_⟩
  · rw [World.frozen?_setCells]; exact thaw_new _ _ _ i
  · have hk' : k < vs.length := by omega
    have := World.cell?_setCells_in w.heap.size vs 0 (w.alloc (.cells z 39)) (fun j hj => by
      rw [Nat.zero_add, World.cell?_alloc_new]
      simp [hz] <;> omega) k hk'
    rw [Nat.zero_add] at this
    rw [this]
    exact (hc k _ (by simp [hk'])).symm

def RcPost (w : World) (R : Rf) (e : Ending) (w' : World) : Prop := e = .returned (.pointer (some ⟨w.heap.size, 0, none⟩)) ∧ RfAt w' w.heap.size w.heap.size R ∧ Below w.heap.size w w'

theorem rx_out {w W w2 : World} {B rb : Nat} {R : Rf} {a : Option Addr} {m cap : Nat} (h : RfAt w B rb R) (hx : Rx w w.heap.size rb W) (hm : R.L.length = m) (ha : AS W 46 6 (.slice a m cap) (0 + m) ([] ++ flat R.L) [] w2) :
    RcPost w R (.returned (.pointer (some ⟨w.heap.size, 0, none⟩))) (w2.setCell ⟨w.heap.size, 96, none⟩ (.slice a m cap)) := by
  have hr := ha.row
  rw [Nat.zero_add, List.nil_append] at hr
  have hlt : w.heap.size < W.heap.size := by rw [hx.size]; omega
  have hsz := ha.below.size
  have hcell : ∀ k, k < 99 → k ≠ 96 → (w2.setCell ⟨w.heap.size, 96, none⟩ (.slice a m cap)).cell? ⟨w.heap.size, k, none⟩ = w.cell? ⟨rb, k, none⟩ := fun k hk hne => by
    rw [World.cell?_setCell_other _ _ _ _ (by simp [Ne.symm hne])]
    exact (ha.below.cell (p := ⟨w.heap.size, k, none⟩) hlt).trans (hx.cell k hk)
  have h96 : w2.cell? ⟨w.heap.size, 96, none⟩ = w.cell? ⟨rb, 96, none⟩ := (ha.below.cell (p := ⟨w.heap.size, 96, none⟩) hlt).trans (hx.cell 96 (by omega))
  obtain ⟨vL, e96, -, -⟩ := h.row
  refine ⟨rfl, ⟨Nat.le_refl _, by simp; omega, fun v f hv hf => ?_, ⟨_, World.cell?_setCell_same _ _ _ (h96.trans e96), ?_, fun q => ?_⟩, ?_, ?_, ?_, h.short⟩, (hx.below.trans (ha.below.mono hx.below.size)).setCell (Nat.le_refl _) _⟩
  · rw [hcell _ (by omega) (by omega)]; exact h.giv v f hv hf
  · show World.ownsRow _ _ _ _ _ _ _
    rw [hm]
    refine owns_mono (owns_same hr fun k hk => Below.heap_setCell _ _ _ _ ?_) (Nat.le_of_lt hlt)
    intro e
    have := (hr.lt k hk).1
    have e' : k = w.heap.size := e
    omega
  · have := (hr.lt _ q).1
    omega
  · rw [hcell _ (by omega) (by omega)]; exact h.num
  · rw [hcell _ (by omega) (by omega)]; exact h.cnt
  · exact Thaw.setCell (hx.thaw.below ha.below hlt) _ _

set_option maxRecDepth 20000 in
set_option maxHeartbeats 4000000 in
theorem rclone_any {w : World} {B rb : Nat} {R : Rf} (h : RfAt w B rb R) : Calls Try.prog 33 #[.pointer (some ⟨rb, 0, none⟩)] w (RcPost w R) := by
  have HR := Lib.hid h
  obtain ⟨vs, hs, h1, hc⟩ := h.cells
  have hz : Try.zeroCells39.size = 99 := by kernel_rfl
  have HX := Lib.hid (rx_of (z := Try.zeroCells39) hz hs hc)
  have HC := Lib.hid hc
  have HI := Lib.hid (show ∀ k, k < 99 → ((w.alloc (.cells Try.zeroCells39 39)).cell? ⟨w.heap.size, k, none⟩).isSome = true from fun k hk => by
    rw [World.cell?_alloc_new]
    simp [hz, hk])
  have H1 := Lib.hid h1
  obtain ⟨vL, c96, hrow, -⟩ := h.row
  obtain ⟨m, hm⟩ : ∃ m, R.L.length = m := ⟨_, rfl⟩
  have HM := Lib.hid hm
  have hm0 : 0 + m ≤ 10000 := by have := h.short; omega
  have hlt := h.lt
  have hsrc : Src w vL 6 m (flat R.L) := by
    have hr2 := hrow
    unfold Rows at hr2
    rw [hm] at hr2
    rcases hr2.2 with ⟨rfl, h0⟩ | ⟨g, cap, cur, rfl, _⟩
    · subst h0
      have : flat R.L = [] := List.eq_nil_of_length_eq_zero (by rw [flat_len, hm])
      rw [this]
      exact src_none _ _
    · have := src_take hr2 (flat_one _) (Nat.le_refl m) cap
      rw [List.take_of_length_le (by rw [hr2.1]; exact Nat.le_refl _)] at this
      exact this
  obtain ⟨aL, cL, rfl⟩ := rows_val hrow
  have hd96 := (HX.out.below.cell (p := ⟨rb, 96, none⟩) hlt).trans c96
  have HSRC := Lib.hid (hsrc.below HX.out.below)
  have hx96 : (((w.alloc (.cells Try.zeroCells39 39)).setCells w.heap.size 0 vs).cell? ⟨w.heap.size, 96, none⟩) = some (.slice aL R.L.length cL) := (HX.out.cell 96 (by omega)).trans c96
  have HD := Lib.hid hd96
  have HE := Lib.hid hx96
  clear h hc h1 hrow hsrc hm c96 hlt hd96 hx96 hz
  go_enter Try.func33, Try.ntmps33
  go_wp2_with (first
    | (refine wp_load39 _ rfl rfl rfl hs HC.out ?_)
    | (refine wp_store39 _ _ rfl rfl rfl rfl hs H1.out HI.out (thaw_new _ _ _) ?_; intro W HW; have HX2 : Hid (Rx w w.heap.size rb W) := Lib.hid (by rw [HW.out]; exact HX.out); have d96 : W.cell? ⟨rb, 96, none⟩ = some (.slice aL R.L.length cL) := (by rw [HW.out]; exact HD.out); have e96 : W.cell? ⟨w.heap.size, 96, none⟩ = some (.slice aL R.L.length cL) := (by rw [HW.out]; exact HE.out); have HS2 : Hid (Src W (.slice aL R.L.length cL) 6 m (flat R.L)) := Lib.hid (by rw [HW.out]; exact HSRC.out))
    | (at_builtin; refine wpList_app elt37 _ _ rfl rfl rfl rfl (AS.start _ 46 6) HS2.out hm0 ?_; intro u w2 HA; obtain ⟨ga, gc, rfl⟩ := owns_val HA.out.row; have f96 := (HA.out.below.cell (p := ⟨w.heap.size, 96, none⟩) (by rw [HX2.out.size]; exact Nat.lt_succ_self _)).trans e96; have z96 := (HX2.out.thaw.below HA.out.below (by rw [HX2.out.size]; exact Nat.lt_succ_self _)) 96; have hsz2 : w.heap.size < w2.heap.size := (by have := HA.out.below.size; rw [HX2.out.size] at this; exact this)))
  go_ret
  have hA := HA.out
  rw [Nat.zero_add] at hA
  exact rx_out HR.out HX2.out HM.out (by rw [Nat.zero_add]; exact hA)
end Go.Proofs.Ytnhpjmjinchamaa
