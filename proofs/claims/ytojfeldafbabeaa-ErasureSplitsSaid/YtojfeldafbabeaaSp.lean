/- The walks of Split, the program's and the reference's. -/
import Derived.Test.YtojfeldafbabeaaJn
set_option linter.unusedVariables false
set_option linter.unusedSimpArgs false
set_option linter.unnecessarySimpa false
namespace Go.Proofs.Ytojfeldafbabeaa
open Go.RowKit Go.Mem Go.Deep

def splRow (s : Nat) (l : List Nat) (i : Nat) : List Nat := (List.range s).map fun j => l.getD (i * s + j) 0
def spl (k s : Nat) (l : List Nat) : List (List Nat) := (List.range k).map (splRow s l)
theorem splRow_len (s : Nat) (l : List Nat) (i : Nat) : (splRow s l i).length = s := by simp [splRow]
theorem splRow_at (s : Nat) (l : List Nat) (i : Nat) {j : Nat} (hj : j < s) : (splRow s l i).getD j 0 = l.getD (i * s + j) 0 := by simp [splRow, hj]
theorem splRow_lt {l : List Nat} (h : ∀ x ∈ l, x < 256) (s i : Nat) : ∀ x ∈ splRow s l i, x < 256 := fun x hx => by
  obtain ⟨j, _, rfl⟩ := List.mem_map.1 hx
  exact GF.getD_lt h _

def SplitOk (k s : Int) (l : List Nat) : Prop := 1 ≤ k ∧ k ≤ 6 ∧ 0 ≤ s ∧ s ≤ 4096 ∧ (l.length : Int) ≤ k * s
def SplitPost (k s : Int) (l : List Nat) (w : World) (e : Ending) (w' : World) : Prop :=
  (¬ (1 ≤ k ∧ k ≤ 6 ∧ 0 ≤ s ∧ s ≤ 4096) ∧ NilPost 1 w e w') ∨
  ((1 ≤ k ∧ k ≤ 6 ∧ 0 ≤ s ∧ s ≤ 4096) ∧ k * s < l.length ∧ NilPost 2 w e w') ∨
  ((1 ≤ k ∧ k ≤ 6 ∧ 0 ≤ s ∧ s ≤ 4096) ∧ (l.length : Int) ≤ k * s ∧ ∃ v, e = .returned (.tuple #[v, .int .i64 0]) ∧ Mat w' v (spl k.toNat s.toNat l) ∧ Below w.heap.size w w')

theorem bytes_drop {w : World} {b o q cap lo : Nat} {l : List Nat} (h : Bytes w (.slice (some ⟨b, o, none⟩) q cap) l) (hl : l.length = q) (hlo : lo ≤ q) (h0 : 0 < q) : Bytes w (.slice (some ⟨b, o + lo, none⟩) (q - lo) (cap - lo)) (l.drop lo) := by
  obtain ⟨⟨a, c, e, h1, h2, h4, h3⟩, hx⟩ := h
  rw [len_u8s, hl] at e h1 h4
  cases e
  have hdl : (l.drop lo).length = q - lo := by simp [hl]
  refine ⟨⟨some ⟨b, o + lo, none⟩, cap - lo, by rw [len_u8s, hdl], by rw [len_u8s, hdl]; omega, by omega, by rw [len_u8s, hdl]; omega, ?_⟩, fun x hm => hx x (List.mem_of_mem_drop hm)⟩
  rcases h3 with h3 | ⟨b', o', e, hb, hc⟩
  · have : l.length = 0 := by rw [← len_u8s, h3]; rfl
    omega
  · cases e
    refine .inr ⟨b, o + lo, rfl, hb, fun i hi => ?_⟩
    rw [len_u8s, hdl] at hi
    have h5 := hc (lo + i) (by rw [len_u8s, hl]; omega)
    rw [← Nat.add_assoc] at h5
    rw [h5]
    simp [u8s, List.getElem?_drop]

/-- copy into a row of zeros of the call's own -/
theorem copy_zero {ops : Array Oper} {rest : List Oper} {o : Oper} {a : Act} {Q : Exit → Act → World → Prop} {W : World} (hgd : o.guard = none) (d s : Operand)
    (ho : o.op = .call { callee := .builtin .copy, args := #[d, s], argTypes := #[31, 31] }) {g n cap qn qcap : Nat} {sp : Option Addr} {ll : List Nat} (hd : a.eval d = .slice (some ⟨g, 0, none⟩) n n) (hs : a.eval s = .slice sp qn qcap)
    (hb : Bytes W (.slice sp qn qcap) ll) (hq : ll.length = qn) (hown : W.rowIs g 5 n (fun _ => .int .u8 0))
    (h : ∀ z W', Hid (W'.rowIs g 5 n (fun j => .int .u8 ((ll.getD j 0 : Nat) : Int)) ∧ (∀ b, b ≠ g → W'.heap[b]? = W.heap[b]?) ∧ W'.heap.size = W.heap.size ∧ Below g W W') → wpList Try.prog ops Q rest (a.put o.dst (goInt z)) W') : wpList Try.prog ops Q (o :: rest) a W := by
  obtain ⟨cur, hc, hn, hcell⟩ := hown
  have hinfo : (Try.prog.info? 5).map (·.size) = some 1 := by kernel_rfl
  by_cases h0 : Nat.min qn n = 0
  · refine wpList_copy_nothing hgd d s 31 31 ho 5 Try.underlying31 hinfo _ _ _ _ _ _ hd hs h0 ?_
    refine h 0 W (show _ ∧ _ from ⟨⟨cur, hc, hn, fun i hi => ?_⟩, fun _ _ => rfl, rfl, Below.refl _ _⟩)
    have hz : qn = 0 := by
      have h1 : min qn n = 0 := h0
      omega
    have : ll = [] := List.eq_nil_of_length_eq_zero (by omega)
    rw [hcell i hi, this]
    simp
  · have hmn : Nat.min qn n = min qn n := rfl
    rw [hmn] at h0
    obtain ⟨b, off, rfl, hbl, _⟩ := hb.cell (i := 0) (by omega)
    have hsl : ((u8s ll).take (min qn n)).length = Nat.min qn n := by rw [List.length_take, len_u8s, hq, hmn]; omega
    refine wpList_copy_own hgd d s 31 31 ho 5 Try.underlying31 hinfo g 0 n n ⟨b, off, none⟩ qn qcap hd hs cur 5 hc ((u8s ll).take (min qn n)) hsl (fun j v hj => ?_) (by rw [hsl, hn, hmn]; omega) (fun v hv => u8s_one v (List.mem_of_mem_take hv)) ?_
    · have hj' : j < min qn n := by
        rcases Nat.lt_or_ge j (min qn n) with h | h
        · exact h
        · rw [List.getElem?_eq_none (by rw [hsl, hmn]; exact h)] at hj; cases hj
      rw [List.getElem?_take, if_pos hj'] at hj
      exact bytes_news hb j v hj
    · refine h _ _ (show _ ∧ _ from ⟨⟨_, setRow_heap W g cur _ 5 (0, 0) hc, ?_, fun i hi => ?_⟩, fun b hb => setRow_other W g b _ hb, setRow_size _ _ _, below_setRow (Below.refl _ _) (Nat.le_refl _) _⟩)
      · simp [len_u8s, hq, hn]; omega
      · simp only [List.getElem?_toArray, List.take_zero, List.nil_append, Nat.zero_add]
        rw [hsl, hmn]
        by_cases hi2 : i < min qn n
        · rw [List.getElem?_append_left (by rw [hsl, hmn]; exact hi2), List.getElem?_take, if_pos hi2]
          simp [u8s, show i < ll.length by omega]
        · rw [List.getElem?_append_right (by rw [hsl, hmn]; omega), hsl, hmn, List.getElem?_drop, show min qn n + (i - min qn n) = i by omega]
          have h5 := hcell i hi
          have h6 : cur.toList[i]? = cur[i]? := by simp
          rw [h6, h5]
          have : ll.getD i 0 = 0 := by rw [List.getD_eq_getElem?_getD, List.getElem?_eq_none (by omega)]; rfl
          simp only [this]
          rfl

theorem bytes_drop' {w : World} {la : Option Addr} {q lcap lo : Nat} {l : List Nat} (h : Bytes w (.slice la q lcap) l) (hl : l.length = q) (hlo : lo ≤ q) : Bytes w (.slice (if lcap = lo then la else Option.map (fun x => x.add lo) la) (q - lo) (lcap - lo)) (l.drop lo) := by
  have hdl : (l.drop lo).length = q - lo := by simp [hl]
  have h0 := h
  obtain ⟨⟨a, c, e, h1, h2, h4, h3⟩, hx⟩ := h0
  rw [len_u8s, hl] at e h1 h4
  cases e
  by_cases hq : q = lo
  · have hnil : l.drop lo = [] := List.eq_nil_of_length_eq_zero (by omega)
    rw [hnil, show q - lo = 0 by omega]
    exact ⟨⟨_, _, rfl, Nat.zero_le _, by omega, by decide, .inl rfl⟩, by simp⟩
  · obtain ⟨b, o, rfl, _⟩ := h.cell (i := 0) (by omega)
    rw [if_neg (by omega)]
    have hadd : (⟨b, o, none⟩ : Addr).add lo = ⟨b, o + lo, none⟩ := by unfold Addr.add; split <;> simp_all
    simp only [Option.map_some, hadd]
    exact bytes_drop h hl hlo (by omega)

/-- a slice laid at place j, its row filled afterwards -/
theorem rowsF_lay {w W' : World} {R n j : Nat} {vs : Nat → Value} {rows : Nat → List Nat} {y : Value} (h : RowsF w R 31 5 n j vs rows) (hb : Below w.heap.size (w.setCell ⟨R, j, none⟩ y) W') (hy : Kept W' R 5 y (rows j)) :
    RowsF W' R 31 5 n (j + 1) (fun i => if i = j then y else vs i) rows := by
  obtain ⟨c, hc, _⟩ := h.outer
  have hA : Below (w.setCell ⟨R, j, none⟩ y).heap.size (w.setCell ⟨R, j, none⟩ y) W' := by simpa using hb
  refine ⟨?_, fun i hi => ?_⟩
  · have h1 := (h.outer.set j y).of_block (hA.block R (by simpa using h.outer.lt))
    refine h1.congr fun i _ => ?_
    by_cases q : i = j
    · subst q; simp
    · by_cases q2 : i < j
      · simp [q, q2, show i < j + 1 by omega]
      · simp [q, q2, show ¬ i < j + 1 by omega]
  · by_cases q : i = j
    · subst q
      simp only [if_true]
      exact hy
    · simp only [q, if_false]
      exact ((h.inner i (by omega)).beside (Nat.le_refl _) hc (by decide) (fun b hb => blk_setCell_other _ _ _ _ hb) (by simp)).below hA

theorem drop_row {s i lo : Nat} {l : List Nat} (hlo : lo = if i * s < l.length then i * s else l.length) {j : Nat} (hj : j < s) : (l.drop lo).getD j 0 = (splRow s l i).getD j 0 := by
  rw [splRow_at _ _ _ hj]
  simp only [List.getD_eq_getElem?_getD, List.getElem?_drop]
  rw [hlo]
  split
  · rfl
  · rw [List.getElem?_eq_none (by omega), List.getElem?_eq_none (by omega)]

set_option maxHeartbeats 2000000 in
theorem split_bad (k s : Int) (l : List Nat) (vl : Value) (w : World) (hl : Bytes w vl l) (hb : ¬ (1 ≤ k ∧ k ≤ 6 ∧ 0 ≤ s ∧ s ≤ 4096)) : Calls Try.prog 26 #[.int .i64 k, .int .i64 s, vl] w (NilPost 1 w) := by
  clear hl
  have key : ∀ (x y z u : Bool), decide (k < 1) = x → decide (6 < k) = y → decide (s < 0) = z → decide (4096 < s) = u → (x || y || z || u) = true → Calls Try.prog 26 #[.int .i64 k, .int .i64 s, vl] w (NilPost 1 w) := by
    intro x y z u hx hy hz hu hor
    have HOR := Lib.hid hor
    clear hor hb
    cases x
    · cases y
      · cases z
        · cases u
          · exact absurd HOR.out (by decide)
          · go_enter Try.func26, Try.ntmps26
            go_wp2_with fail
            go_ret2
            exact ⟨rfl, Below.refl _ _⟩
        · go_enter Try.func26, Try.ntmps26
          go_wp2_with fail
          go_ret2
          exact ⟨rfl, Below.refl _ _⟩
      · go_enter Try.func26, Try.ntmps26
        go_wp2_with fail
        go_ret2
        exact ⟨rfl, Below.refl _ _⟩
    · go_enter Try.func26, Try.ntmps26
      go_wp2_with fail
      go_ret2
      exact ⟨rfl, Below.refl _ _⟩
  refine key _ _ _ _ rfl rfl rfl rfl ?_
  simp only [Bool.or_eq_true, decide_eq_true_eq]
  omega
set_option maxHeartbeats 2000000 in
theorem refSplit_bad (k s : Int) (l : List Nat) (vl : Value) (w : World) (hl : Bytes w vl l) (hb : ¬ (1 ≤ k ∧ k ≤ 6 ∧ 0 ≤ s ∧ s ≤ 4096)) : Calls Try.prog 27 #[.int .i64 k, .int .i64 s, vl] w (NilPost 1 w) := by
  clear hl
  have key : ∀ (x y z u : Bool), decide (k < 1) = x → decide (6 < k) = y → decide (s < 0) = z → decide (4096 < s) = u → (x || y || z || u) = true → Calls Try.prog 27 #[.int .i64 k, .int .i64 s, vl] w (NilPost 1 w) := by
    intro x y z u hx hy hz hu hor
    have HOR := Lib.hid hor
    clear hor hb
    cases x
    · cases y
      · cases z
        · cases u
          · exact absurd HOR.out (by decide)
          · go_enter Try.func27, Try.ntmps27
            go_wp2_with fail
            go_ret2
            exact ⟨rfl, Below.refl _ _⟩
        · go_enter Try.func27, Try.ntmps27
          go_wp2_with fail
          go_ret2
          exact ⟨rfl, Below.refl _ _⟩
      · go_enter Try.func27, Try.ntmps27
        go_wp2_with fail
        go_ret2
        exact ⟨rfl, Below.refl _ _⟩
    · go_enter Try.func27, Try.ntmps27
      go_wp2_with fail
      go_ret2
      exact ⟨rfl, Below.refl _ _⟩
  refine key _ _ _ _ rfl rfl rfl rfl ?_
  simp only [Bool.or_eq_true, decide_eq_true_eq]
  omega

set_option maxHeartbeats 2000000 in
theorem split_ok (k s : Nat) (l : List Nat) (vl : Value) (w : World) (hl : Bytes w vl l) (h1 : 1 ≤ k) (h6 : k ≤ 6) (hs : s ≤ 500) (hl2 : l.length ≤ 2000) :
    Calls Try.prog 26 #[.int .i64 k, .int .i64 s, vl] w (SplitPost k s l w) := by
  obtain ⟨la, lcap, rfl, _⟩ := hl.open
  obtain ⟨q, hq⟩ : ∃ q, q = l.length := ⟨_, rfl⟩
  obtain ⟨P, hP⟩ : ∃ P : Nat, P = k * s := ⟨_, rfl⟩
  have hPi : (k : Int) * (s : Int) = (P : Int) := by rw [hP]; simp
  have hP3 : P ≤ 3000 := by rw [hP]; exact Nat.le_trans (Nat.mul_le_mul h6 hs) (by decide)
  have hpw : IntKind.i64.wrap (P : Int) = P := IntWalk.i64_in _ (by omega)
  rw [← hq] at hl hl2 ⊢
  have hd1 : decide ((k : Int) < 1) = false := by simp; omega
  have hd2 : decide ((6 : Int) < k) = false := by simp; omega
  have hd3 : decide ((s : Int) < 0) = false := by simp
  have hd4 : decide ((4096 : Int) < s) = false := by simp; omega
  have HL := Lib.hid hl
  have HQ := Lib.hid hq
  have HP := Lib.hid hP
  have hrange : Hid (1 ≤ (k : Int) ∧ (k : Int) ≤ 6 ∧ 0 ≤ (s : Int) ∧ (s : Int) ≤ 4096) := Lib.hid (by omega)
  clear hl hq hP
  by_cases hbig : P < q
  · have hd5 : decide ((P : Int) < q) = true := by simp; omega
    go_enter Try.func26, Try.ntmps26
    go_wp2_with fail
    go_ret2
    exact .inr (.inl ⟨hrange.out, by rw [hPi, ← HQ.out]; omega, rfl, Below.refl _ _⟩)
  · have hd5 : decide ((P : Int) < q) = false := by simp; omega
    have hmk22 := run_make_row' (P := Try.prog) 22 31 (.slice none 0 0) 24 Try.underlying22 info29 rfl .i64 .i64 k (by omega) (by omega)
    have hmk31 := run_make_row' (P := Try.prog) 31 5 (.int .u8 0) 1 Try.underlying31 info5 rfl .i64 .i64 s (by omega) (by omega)
    go_enter Try.func26, Try.ntmps26
    go_wp2_with fail
    go_loopw [36] (fun i wr => ∃ (j : Nat) (vs : Nat → Value), j ≤ k ∧ i = .int .i64 j ∧ Below w.heap.size w wr ∧ RowsF wr w.heap.size 31 5 k j vs (splRow s l)) (fun i _ => k - (intOf i).toNat)
    case atStart => exact ⟨0, fun _ => undef, by omega, rfl, (Below.refl _ _).alloc (Nat.le_refl _) _, RowsF.made _ _ _ _ _ _⟩
    case round =>
      rename World => wr
      obtain ⟨j, vs, hj, rfl, hbr, hrf⟩ := hrel
      have HB := Lib.hid hbr
      have HR := Lib.hid hrf
      have hgr := hbr.size
      have hRlt := hrf.lt
      clear hbr hrf
      by_cases hjk : j < k
      · obtain ⟨Pj, hPj⟩ : ∃ P : Nat, P = j * s := ⟨_, rfl⟩
        have hPji : (j : Int) * (s : Int) = (Pj : Int) := by rw [hPj]; simp
        have hPj3 : Pj ≤ 3000 := by rw [hPj]; exact Nat.le_trans (Nat.mul_le_mul (show j ≤ 6 by omega) hs) (by decide)
        have hpjw : IntKind.i64.wrap (Pj : Int) = Pj := IntWalk.i64_in _ (by omega)
        obtain ⟨lo, hlo⟩ : ∃ x, x = if Pj < q then Pj else q := ⟨_, rfl⟩
        have hmin : (if Pj < q then (Pj : Int) else (q : Int)) = (lo : Int) := by rw [hlo]; split <;> rfl
        have hloq : lo ≤ q := by rw [hlo]; split <;> omega
        have HLO := Lib.hid (show lo = if j * s < l.length then j * s else l.length by rw [← hPj, ← HQ.out]; exact hlo)
        have hoc := HR.out.outer.cell hjk
        have hof := HR.out.outer.frozen j
        rw [if_neg (Nat.lt_irrefl j)] at hoc
        obtain ⟨W0, hW0⟩ : ∃ W, W = (wr.setCell ⟨w.heap.size, j, none⟩ (.slice (some ⟨wr.heap.size, 0, none⟩) s s)).alloc (.cells (madeCells #[.int .u8 0] s) 5) := ⟨_, rfl⟩
        have hb1 : Below w.heap.size w W0 := by rw [hW0]; exact (HB.out.setCell (Nat.le_refl _) _).alloc (by simpa using hgr) _
        have hrow0 : W0.rowIs wr.heap.size 5 s (fun _ => .int .u8 0) := by
          have := World.rowIs_made (wr.setCell ⟨w.heap.size, j, none⟩ (.slice (some ⟨wr.heap.size, 0, none⟩) s s)) (.int .u8 0) s 5
          rw [hW0]
          simpa using this
        have hoc0 : W0.cell? ⟨w.heap.size, j, none⟩ = some (.slice (some ⟨wr.heap.size, 0, none⟩) s s) := by
          have h := ((HR.out.outer.set j (.slice (some ⟨wr.heap.size, 0, none⟩) s s)).alloc (.cells (madeCells #[.int .u8 0] s) 5)).cell hjk
          rw [if_pos rfl] at h
          rw [hW0]; exact h
        have hbw : Bytes W0 (.slice la q lcap) l := HL.out.below hb1 (Nat.le_refl _)
        have HB1 := Lib.hid hb1
        have HW0 := Lib.hid hW0
        have HROW := Lib.hid hrow0
        have HBW := Lib.hid hbw
        clear hPj hlo hb1 hrow0 hbw hW0
        go_wp2_with fail
        rw [← HW0.out]
        refine wp_region_still_tail 12 (by kernel_rfl) (by kernel_rfl) ?_
        simp only [List.take_succ_cons, List.take_zero, List.drop_succ_cons, List.drop_zero]
        repeat still_step
        refine wpStill_nil ?_
        refine copy_zero rfl (.tmp 47) (.tmp 55) rfl (g := wr.heap.size) (cap := s) rfl rfl (bytes_drop' (HBW.out.below (Below.refl _ W0).drew (Nat.le_refl _)) HQ.out.symm hloq) (by simp [← HQ.out]) HROW.out.drew ?_
        intro z W' hW'
        go_wp2_with fail
        go_roundw
        case rel =>
          obtain ⟨r1, r2, r3, r4⟩ := hW'.out
          have e0 : (wr.setCell ⟨w.heap.size, j, none⟩ (.slice (some ⟨wr.heap.size, 0, none⟩) s s)).heap.size = wr.heap.size := by simp
          have hA : Below wr.heap.size (wr.setCell ⟨w.heap.size, j, none⟩ (.slice (some ⟨wr.heap.size, 0, none⟩) s s)) W0 := by rw [HW0.out]; exact (Below.refl _ _).alloc (by rw [e0]; exact Nat.le_refl _) _
          have hA2 : Below wr.heap.size (wr.setCell ⟨w.heap.size, j, none⟩ (.slice (some ⟨wr.heap.size, 0, none⟩) s s)) W' := hA.trans ((Below.refl _ W0).drew.trans r4)
          have hrow : W'.rowIs wr.heap.size 5 s (fun t => .int .u8 (((splRow s l j).getD t 0 : Nat) : Int)) := r1.congr fun t ht => by rw [drop_row HLO.out ht]
          have hrow' := hrow
          obtain ⟨cc, hcc, _⟩ := hrow'
          have hbs := Bytes.of_row (l := splRow s l j) hrow (by rw [splRow_len]; exact Nat.le_refl _) (by unfold maxLen; omega) (by rw [splRow_len]; omega) (splRow_lt HL.out.2 s j)
          rw [splRow_len] at hbs
          exact ⟨j + 1, _, by omega, by go_num, (HB1.out.drew.trans (r4.mono hgr)), rowsF_lay HR.out hA2 (Kept.fresh hbs rfl hcc)⟩
        case measure => simp [intOf]; omega
      · obtain rfl : j = k := by omega
        go_wp2_with fail
        go_ret2
        exact .inr (.inr ⟨hrange.out, by rw [hPi, ← HQ.out]; omega, _, rfl, by rw [Int.toNat_natCast, Int.toNat_natCast]; exact HR.out.mat (by unfold maxLen; omega) (by omega), HB.out⟩)
end Go.Proofs.Ytojfeldafbabeaa
