/- The walk of the reference's Commit. -/
import Derived.Test.YtnhpjmjinchamaaRe
set_option linter.unusedVariables false
set_option linter.unusedSimpArgs false
set_option linter.unnecessarySimpa false
namespace Go.Proofs.Ytnhpjmjinchamaa
open Go Go.RowKit

section
variable {ops : Array Oper} {rest : List Oper} {o : Oper} {a : Act} {Q : Exit → Act → World → Prop} {w : World}
theorem wp_store_bool (x y : Operand) (hg : o.guard = none) (hop : o.op = Op.store 4 x y) {b off : Nat} {q : Bool} (hx : a.eval x = .pointer (some ⟨b, off, none⟩)) (hy : a.eval y = .bool q) {u : Value} (hc : w.cell? ⟨b, off, none⟩ = some u) (hf : w.frozen? ⟨b, off, none⟩ = false)
    (hK : ∀ w', Hid (w' = w.setCell ⟨b, off, none⟩ (.bool q)) → wpList Try.prog ops Q rest (a.put o.dst undef) w') : wpList Try.prog ops Q (o :: rest) a w := by
  refine wpList_plain hg fun K' hK' => ?_
  unfold Oper.wp
  simp only [execOp, hop, hx, hy]
  go_simp
  exact hK' _ _ (hK _ rfl)
theorem wp_store_slice (x y : Operand) (hg : o.guard = none) (hop : o.op = Op.store 37 x y) {b off : Nat} {p : Option Addr} {n c : Nat} (hx : a.eval x = .pointer (some ⟨b, off, none⟩)) (hy : a.eval y = .slice p n c) {u : Value} (hc : w.cell? ⟨b, off, none⟩ = some u) (hf : w.frozen? ⟨b, off, none⟩ = false)
    (hK : ∀ w', Hid (w' = w.setCell ⟨b, off, none⟩ (.slice p n c)) → wpList Try.prog ops Q rest (a.put o.dst undef) w') : wpList Try.prog ops Q (o :: rest) a w := by
  refine wpList_plain hg fun K' hK' => ?_
  unfold Oper.wp
  simp only [execOp, hop, hx, hy]
  go_simp
  exact hK' _ _ (hK _ rfl)
end

theorem flat_set (L : List Ls) (i : Nat) (l : Ls) (h : L[i]? = some l) : flat (L.set i { l with mov := false }) = (flat L).set (i * 6 + 5) (.bool false) := by
  induction L generalizing i with
  | nil => simp at h
  | cons x L ih =>
    cases i with
    | zero =>
      simp at h
      subst h
      simp [flat]
    | succ i =>
      have := ih i (by simpa using h)
      unfold flat at *
      rw [List.set_cons_succ, List.flatMap_cons, List.flatMap_cons, this, List.set_append_right _ _ (by show 6 ≤ (i + 1) * 6 + 5; omega)]
      rw [show (i + 1) * 6 + 5 - (lc x).toList.length = i * 6 + 5 by show (i + 1) * 6 + 5 - 6 = _; omega]

def rcommitF (R : Rf) (v f : Int) : (Ls × Int) × Rf :=
  if fragB v f then
    if findN (isF v f true) R.L < 0 then ((noL, 110), R) else
      let i := (findN (isF v f true) R.L).toNat
      let L1 := R.L.set i { R.L.getD i noL with mov := false }
      ((L1.getD (i - 1) noL, 0), cutR { R with L := L1 } (i - 1))
  else ((noL, 5), R)

set_option maxRecDepth 20000 in
set_option maxHeartbeats 2000000 in
theorem rcommit_no {w : World} {B rb : Nat} {R : Rf} (h : RfAt w B rb R) (v f : Int) {n : Int} (hn : fragB v f = false ∧ n = 5 ∨ fragB v f = true ∧ findN (isF v f true) R.L < 0 ∧ n = 110) : Calls Try.prog 30 #[.pointer (some ⟨rb, 0, none⟩), .int .i64 v, .int .i64 f] w
    (RefPost w B rb R (.tuple #[lv noL, .int .i64 n])) := by
  have HS := Lib.hid (Rp.start h (lc noL) 46)
  clear h
  rcases hn with ⟨h1, rfl⟩ | ⟨h1, h2, rfl⟩
  · have H1 := Lib.hid h1
    clear h1
    go_enter Try.func30, Try.ntmps30
    go_wp2_with (first
      | (go_at_call 50; (with_reducible refine (rfrag_as H1.out _).mono ?_); rintro e w1 ⟨rfl, rfl⟩))
    exact bodyPost_ret (v := .tuple #[lv noL, .int .i64 5]) (by simp [results, Try.results30, go_sem]) rfl ⟨rfl, HS.out.out⟩
  · obtain ⟨k, hk⟩ : ∃ q, findN (isF v f true) R.L = q := ⟨_, rfl⟩
    rw [hk] at h2
    have H1 := Lib.hid h1
    have H5 := Lib.hid hk
    clear h1 hk
    go_enter Try.func30, Try.ntmps30
    go_wp2_with (first
      | (go_at_call 50; (with_reducible refine (rfrag_as H1.out _).mono ?_); rintro e w1 ⟨rfl, rfl⟩)
      | (go_at_call 52; (with_reducible refine (find_as HS.out.rf H5.out).mono ?_); rintro e w1 ⟨rfl, rfl⟩))
    exact bodyPost_ret (v := .tuple #[lv noL, .int .i64 110]) (by simp [results, Try.results30, go_sem]) rfl ⟨rfl, HS.out.out⟩

theorem own_open {W w2 : World} {u : Value} {m : Nat} {L : List Ls} (h : AS W 46 6 u (0 + m) ([] ++ flat L) [] w2) (hm : 0 < m) : ∃ gb cb, u = .slice (some ⟨gb, 0, none⟩) m cb ∧ W.heap.size ≤ gb ∧ gb < w2.heap.size ∧ Hid (w2.ownsRow W.heap.size 46 6 (.slice (some ⟨gb, 0, none⟩) m cb) m (flat L)) ∧ Below W.heap.size W w2 := by
  have hr := h.row
  rw [Nat.zero_add, List.nil_append] at hr
  have hr2 := hr
  rcases hr.2 with ⟨_, h0⟩ | ⟨gb, cb, cur, rfl, hB, hg, _⟩
  · omega
  · exact ⟨gb, cb, rfl, hB, (Array.getElem?_eq_some_iff.1 hg).1, hr2, h.below⟩
theorem own_cell {w : World} {B g m cap : Nat} {L : List Ls} (h : w.ownsRow B 46 6 (.slice (some ⟨g, 0, none⟩) m cap) m (flat L)) {i : Nat} {l : Ls} (hl : L[i]? = some l) (j : Nat) (v : Value) (hv : (lc l)[j]? = some v) : w.cell? ⟨g, i * 6 + j, none⟩ = some v ∧ w.frozen? ⟨g, i * 6 + j, none⟩ = false := by
  have h1 := flat_get L i j l v hl hv
  have hlt : i * 6 + j < m * 6 := by rw [← h.1]; exact (List.getElem?_eq_some_iff.1 h1).1
  exact ⟨(h.cellAt _ hlt).trans h1, h.frozenAt _⟩
/-- the copied row with one flag turned, laid into the table -/
theorem commit_row {w W w2 : World} {B rb b0 gb cb m : Nat} {R : Rf} {c : Array Value} {i : Nat} {l : Ls} (hs : Rp w B rb R b0 c W) (hb : Below W.heap.size W w2) (hg : W.heap.size ≤ gb) (hr : w2.ownsRow W.heap.size 46 6 (.slice (some ⟨gb, 0, none⟩) m cb) m (flat R.L)) (hm : m = R.L.length) (hl : R.L[i]? = some l) :
    Rp w B rb { R with L := R.L.set i { l with mov := false } } b0 c ((w2.setCell ⟨gb, i * 6 + 5, none⟩ (.bool false)).setCell ⟨rb, 96, none⟩ (.slice (some ⟨gb, 0, none⟩) m cb)) := by
  have hst := (hr.stored (i * 6 + 5) (.bool false)).1
  rw [← flat_set R.L i l hl] at hst
  have hlen : (R.L.set i { l with mov := false }).length = m := by rw [List.length_set, hm]
  obtain ⟨k1, k2, k3⟩ := hs.rf.row' (W := w2.setCell ⟨gb, i * 6 + 5, none⟩ (.bool false)) (L' := R.L.set i { l with mov := false }) (u := .slice (some ⟨gb, 0, none⟩) m cb) (hb.setCell hg _) (by rw [hlen]; exact hst) (by rw [hlen, hm]; exact hs.rf.short)
  exact hs.turn k1 k2 fun b hlt _ => k3 b hlt

set_option maxRecDepth 20000 in
set_option maxHeartbeats 4000000 in
theorem rcommit_yes {w : World} {B rb : Nat} {R : Rf} (h : RfAt w B rb R) (v f : Int) {j : Nat} {l lw : Ls} {R1 R' : Rf} (h1 : fragB v f = true) (hk : findN (isF v f true) R.L = (j : Int) + 1) (hj : j + 1 < R.L.length) (hl : R.L[j + 1]? = some l)
    (hR1 : { R with L := R.L.set (j + 1) { l with mov := false } } = R1) (hw : R1.L[j]? = some lw) (hR' : cutR R1 j = R') :
    Calls Try.prog 30 #[.pointer (some ⟨rb, 0, none⟩), .int .i64 v, .int .i64 f] w (RefPost w B rb R' (.tuple #[lv lw, .int .i64 0])) := by
  have HS := Lib.hid (Rp.start h (lc noL) 46)
  have hsh := h.short
  have hlt := h.lt
  have H1 := Lib.hid h1
  have H5 := Lib.hid hk
  have HL := Lib.hid hl
  have HR1 := Lib.hid hR1
  have HW := Lib.hid hw
  have HR' := Lib.hid hR'
  have HJ := Lib.hid (show j < R1.L.length from (List.getElem?_eq_some_iff.1 hw).1)
  obtain ⟨vL, c96, hrow, hne⟩ := (HS.out.rf).row
  obtain ⟨m, hm⟩ : ∃ m, m = R.L.length := ⟨_, rfl⟩
  have HM := Lib.hid hm
  have hrow2 : (w.alloc (.cells (lc noL) 46)).ownsRow B 46 6 vL m (flat R.L) := by have := hrow; unfold Rows at this; rw [← hm] at this; exact this
  rcases hrow2.2 with ⟨_, h0⟩ | ⟨g, cap, cur, rfl, hB, hg, hnc, hcm, -⟩
  · omega
  rw [← hm] at hsh hj
  have HSRC := Lib.hid (show Src (w.alloc (.cells (lc noL) 46)) (.slice (some ⟨g, 0, none⟩) m cap) 6 m (flat R.L) by
    have := src_take hrow2 (flat_one _) (Nat.le_refl m) cap
    rw [List.take_of_length_le (by rw [hrow2.1]; exact Nat.le_refl _)] at this
    exact this)
  have hm0 : 0 + m ≤ 10000 := by omega
  have hmpos : 0 < m := by omega
  have C96 := Lib.hid c96
  have hltW := HS.out.rf.lt
  have HLW := Lib.hid (show R.L[j]? = some lw by have := HW.out; rw [← HR1.out] at this; simpa using this)
  clear h h1 hk hl hR1 hw hR' hrow hrow2 hg hm hB hcm hne
  go_enter Try.func30, Try.ntmps30
  go_wp2_with (first
    | (go_at_call 50; (with_reducible refine (rfrag_as H1.out _).mono ?_); rintro e w1 ⟨rfl, rfl⟩)
    | (go_at_call 52; (with_reducible refine (find_as HS.out.rf H5.out).mono ?_); rintro e w1 ⟨rfl, rfl⟩)
    | (at_builtin; refine wpList_app elt37 _ _ rfl rfl rfl rfl (AS.start _ 46 6) HSRC.out hm0 ?_; intro u w2 HA; obtain ⟨gb, cb, rfl, hgb, hgl, HRW, hbw⟩ := own_open HA.out hmpos; have HBW := Lib.hid hbw; obtain ⟨x5, xf5⟩ := own_cell HRW.out HL.out 5 _ rfl; obtain ⟨y0, -⟩ := own_cell HRW.out HLW.out 0 _ rfl; obtain ⟨y1, -⟩ := own_cell HRW.out HLW.out 1 _ rfl; obtain ⟨y2, -⟩ := own_cell HRW.out HLW.out 2 _ rfl; obtain ⟨y3, -⟩ := own_cell HRW.out HLW.out 3 _ rfl; obtain ⟨y4, -⟩ := own_cell HRW.out HLW.out 4 _ rfl; obtain ⟨y5, -⟩ := own_cell HRW.out HLW.out 5 _ rfl; have d96 := (hbw.cell (p := ⟨rb, 96, none⟩) hltW).trans C96.out; have e96 := (hbw.frozen (p := ⟨rb, 96, none⟩) hltW).trans (HS.out.rf.thaw 96); have hrg : ¬ gb = rb := (by omega); have hrg2 : ¬ rb = gb := (by omega); have hrl : rb < w2.heap.size := Nat.lt_of_lt_of_le hltW hbw.size; have n0 : ¬ (j + 1) * 6 + 5 = j * 6 := (by omega); have n1 : ¬ (j + 1) * 6 + 5 = j * 6 + 1 := (by omega); have n2 : ¬ (j + 1) * 6 + 5 = j * 6 + 2 := (by omega); have n3 : ¬ (j + 1) * 6 + 5 = j * 6 + 3 := (by omega); have n4 : ¬ (j + 1) * 6 + 5 = j * 6 + 4 := (by omega); have n5 : ¬ (j + 1) * 6 + 5 = j * 6 + 5 := (by omega); simp only [Nat.add_zero] at y0; have HS4 : Hid (Rp w B rb R1 w.heap.size (lc noL) ((w2.setCell ⟨gb, (j + 1) * 6 + 5, none⟩ (.bool false)).setCell ⟨rb, 96, none⟩ (.slice (some ⟨gb, 0, none⟩) m cb))) := (by rw [← HR1.out]; exact commit_row HS.out hbw hgb HRW.out HM.out HL.out); clear HA hbw hgb))
  have hz : ((w2.setCell ⟨gb, (j + 1) * 6 + 5, none⟩ (.bool false)).setCell ⟨rb, 96, none⟩ (.slice (some ⟨gb, 0, none⟩) m cb)).heap.size = w2.heap.size := by simp
  have HZ := Lib.hid hz
  clear hz x5 xf5 y0 y1 y2 y3 y4 y5 d96 e96 hrg hrg2 n0 n1 n2 n3 n4 n5 c96 HRW HBW
  generalize (w2.setCell ⟨gb, (j + 1) * 6 + 5, none⟩ (.bool false)).setCell ⟨rb, 96, none⟩ (.slice (some ⟨gb, 0, none⟩) m cb) = w4 at *
  refine (cut_as (HS4.out.call (below_alloc _ _)).rf HJ.out HR'.out).mono ?_
  intro e w5 ho
  have HS5 := Lib.hid ((HS4.out.call (below_alloc _ _)).post ho).2
  have HB : Holds w5 w2.heap.size (lc lw) := by
    have hh := Holds.only (Holds.new w4 (lc lw) 46) ho.2.2.1 (by have := HZ.out; simp; omega)
    rw [HZ.out] at hh
    exact hh
  obtain ⟨rfl, -⟩ := ho
  obtain ⟨d0, d1, d2, d3, d4, d5, -⟩ := HB.lay6
  clear HB
  obtain ⟨b0, b1, b2, b3, b4, b5, bf0, bf1, bf2, bf3, bf4, bf5, bl⟩ := HS5.out.box.lay6
  go_wp2_with fail
  have HS6 := HS5.out.put6 (.int .i64 lw.vol) (.int .i64 lw.frag) (.int .i64 lw.drive) (.int .i64 lw.ext) (.int .i64 lw.gen) (.bool lw.mov)
  clear d0 d1 d2 d3 d4 d5 b0 b1 b2 b3 b4 b5 bf0 bf1 bf2 bf3 bf4 bf5 bl
  refine bodyPost_ret (v := .tuple #[lv lw, .int .i64 0]) ?_ rfl ⟨rfl, HS6.out⟩
  obtain ⟨c0, c1, c2, c3, c4, c5, -⟩ := HS6.box.lay6
  simp [results, Try.results30, go_sem, c0, c1, c2, c3, c4, c5]

theorem rcommit_any {w : World} {B rb : Nat} {R : Rf} (h : RfAt w B rb R) (v f : Int) (h0 : fragB v f = true → findN (isF v f true) R.L ≠ 0) : Calls Try.prog 30 #[.pointer (some ⟨rb, 0, none⟩), .int .i64 v, .int .i64 f] w
    (RefPost w B rb (rcommitF R v f).2 (.tuple #[lv (rcommitF R v f).1.1, .int .i64 (rcommitF R v f).1.2])) := by
  unfold rcommitF
  cases h1 : fragB v f with
  | false => exact rcommit_no h v f (.inl ⟨h1, rfl⟩)
  | true =>
    simp only [if_true]
    by_cases h2 : findN (isF v f true) R.L < 0
    · rw [if_pos h2]
      exact rcommit_no h v f (.inr ⟨h1, h2, rfl⟩)
    · rw [if_neg h2]
      have h3 := h0 h1
      obtain ⟨k, hk⟩ : ∃ k, findN (isF v f true) R.L = k := ⟨_, rfl⟩
      rw [hk] at h2 h3 ⊢
      obtain ⟨j, hj⟩ : ∃ j : Nat, k = (j : Int) + 1 := ⟨(k - 1).toNat, by omega⟩
      obtain ⟨k1, k2⟩ := findN_lt hk (by omega)
      have hkn : k.toNat = j + 1 := by omega
      rw [hkn] at k1 ⊢
      have hl : R.L[j + 1]? = some R.L[j + 1] := by simp [k1]
      have hg : R.L.getD (j + 1) noL = R.L[j + 1] := by simp [k1]
      rw [hg]
      have hj1 : j < R.L.length := by omega
      refine rcommit_yes h v f h1 (hk.trans hj) k1 hl rfl ?_ rfl
      simp [hj1]
end Go.Proofs.Ytnhpjmjinchamaa
