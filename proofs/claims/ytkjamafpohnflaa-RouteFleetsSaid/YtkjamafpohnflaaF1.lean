/- The walks of Tree and Caps and of their references. -/
import Derived.Test.YtkjamafpohnflaaW5
import Derived.Test.YtkjamafpohnflaaSr
set_option linter.unusedVariables false
set_option linter.unusedSimpArgs false
set_option linter.unnecessarySimpa false
namespace Go.Proofs.Ytkjamafpohnflaa
open Go Go.RowKit Go.Mem

/-- the domains: their parents and uplinks -/
def DomAt (w : World) (p : Option Addr) (n : Nat) (pa up : Nat → Int) : Prop := ∀ i, i < n → ∃ b off s lv ng na nl nc da dl dc, p = some ⟨b, off, none⟩ ∧ b < w.heap.size ∧ w.cell? ⟨b, off + i * 7, none⟩ = some (.string s) ∧ w.cell? ⟨b, off + i * 7 + 1, none⟩ = some (.int .i64 lv) ∧ w.cell? ⟨b, off + i * 7 + 2, none⟩ = some (.int .i64 (pa i)) ∧ w.cell? ⟨b, off + i * 7 + 3, none⟩ = some (.int .i64 (up i)) ∧
  w.cell? ⟨b, off + i * 7 + 4, none⟩ = some (.bool ng) ∧ w.cell? ⟨b, off + i * 7 + 5, none⟩ = some (.slice na nl nc) ∧ w.cell? ⟨b, off + i * 7 + 6, none⟩ = some (.slice da dl dc)
/-- the drives: their models and machines -/
def DrvAt (w : World) (p : Option Addr) (n : Nat) (mo ma : Nat → Int) : Prop := ∀ i, i < n → ∃ b off s, p = some ⟨b, off, none⟩ ∧ b < w.heap.size ∧ w.cell? ⟨b, off + i * 3, none⟩ = some (.string s) ∧ w.cell? ⟨b, off + i * 3 + 1, none⟩ = some (.int .i64 (mo i)) ∧ w.cell? ⟨b, off + i * 3 + 2, none⟩ = some (.int .i64 (ma i))
/-- the models: their ports -/
def MdlAt (w : World) (p : Option Addr) (n : Nat) (po : Nat → Int) : Prop := ∀ i, i < n → ∃ b off, p = some ⟨b, off, none⟩ ∧ b < w.heap.size ∧ w.cell? ⟨b, off + i * 4 + 2, none⟩ = some (.int .i64 (po i))
theorem DomAt.below {w w' : World} {p : Option Addr} {n B : Nat} {pa up : Nat → Int} (h : DomAt w p n pa up) (hb : Below B w w') (hB : w.heap.size ≤ B) : DomAt w' p n pa up := fun i hi => by
  obtain ⟨b, off, s, lv, ng, na, nl, nc, da, dl, dc, e, hl, c0, c1, c2, c3, c4, c5, c6⟩ := h i hi
  have k : ∀ o, w'.cell? ⟨b, o, none⟩ = w.cell? ⟨b, o, none⟩ := fun o => hb.cell (p := ⟨b, o, none⟩) (by show b < B; omega)
  exact ⟨b, off, s, lv, ng, na, nl, nc, da, dl, dc, e, by have := hb.size; omega, (k _).trans c0, (k _).trans c1, (k _).trans c2, (k _).trans c3, (k _).trans c4, (k _).trans c5, (k _).trans c6⟩
theorem DrvAt.below {w w' : World} {p : Option Addr} {n B : Nat} {mo ma : Nat → Int} (h : DrvAt w p n mo ma) (hb : Below B w w') (hB : w.heap.size ≤ B) : DrvAt w' p n mo ma := fun i hi => by
  obtain ⟨b, off, s, e, hl, c0, c1, c2⟩ := h i hi
  have k : ∀ o, w'.cell? ⟨b, o, none⟩ = w.cell? ⟨b, o, none⟩ := fun o => hb.cell (p := ⟨b, o, none⟩) (by show b < B; omega)
  exact ⟨b, off, s, e, by have := hb.size; omega, (k _).trans c0, (k _).trans c1, (k _).trans c2⟩
theorem MdlAt.below {w w' : World} {p : Option Addr} {n B : Nat} {po : Nat → Int} (h : MdlAt w p n po) (hb : Below B w w') (hB : w.heap.size ≤ B) : MdlAt w' p n po := fun i hi => by
  obtain ⟨b, off, e, hl, c2⟩ := h i hi
  have k : ∀ o, w'.cell? ⟨b, o, none⟩ = w.cell? ⟨b, o, none⟩ := fun o => hb.cell (p := ⟨b, o, none⟩) (by show b < B; omega)
  exact ⟨b, off, e, by have := hb.size; omega, (k _).trans c2⟩
/-- the three slices of a fleet -/
structure FlAt (w : World) (dp rp mp : Option Addr) (nd nr nm : Nat) (pa up mo ma po : Nat → Int) : Prop where
  d : DomAt w dp nd pa up
  r : DrvAt w rp nr mo ma
  m : MdlAt w mp nm po
theorem FlAt.below {w w' : World} {dp rp mp : Option Addr} {nd nr nm B : Nat} {pa up mo ma po : Nat → Int} (h : FlAt w dp rp mp nd nr nm pa up mo ma po) (hb : Below B w w') (hB : w.heap.size ≤ B) : FlAt w' dp rp mp nd nr nm pa up mo ma po := ⟨h.d.below hb hB, h.r.below hb hB, h.m.below hb hB⟩
/-- the first k numbers of a function -/
def L1 (f : Nat → Int) (k : Nat) : List Int := (List.range k).map f
theorem L1_succ (f : Nat → Int) (k : Nat) : L1 f (k + 1) = L1 f k ++ [f k] := by simp [L1, List.range_succ]
theorem len_L1 (f : Nat → Int) (k : Nat) : (L1 f k).length = k := by simp [L1]
/-- a domain's capacity, a drive's -/
def capD (up : Nat → Int) (i : Nat) : Int := if i = 0 then 0 else up i
def capR (nm : Nat) (mo po : Nat → Int) (i : Nat) : Int := if 0 ≤ mo i ∧ mo i < nm then po (mo i).toNat else 0
def fleetV (ex : Int) (la : Option Addr) (ll lc : Nat) (mp : Option Addr) (nm mc : Nat) (dp : Option Addr) (nd dc : Nat) (rp : Option Addr) (nr rc : Nat) (qa : Option Addr) (ql qc : Nat) (va : Option Addr) (vl vc : Nat) : Value := .agg #[.int .i64 ex, .slice la ll lc, .slice mp nm mc, .slice dp nd dc, .slice rp nr rc, .slice qa ql qc, .slice va vl vc]
theorem new_cell (w : World) (v : Value) (t b : Nat) (hb : b = w.heap.size) : (w.alloc (.cells #[v] t)).cell? ⟨b, 0, none⟩ = some v := by subst hb; simp
/-- a new list -/
def NewIs (w : World) (L : List Int) (n : Nat) (e : Ending) (w' : World) : Prop := ∃ a cap, e = .returned (.slice a n cap) ∧ IntsAt w' (.slice a n cap) L ∧ Below w.heap.size w w'

set_option maxRecDepth 20000 in
set_option maxHeartbeats 8000000 in
theorem tree_any (ex : Int) (la : Option Addr) (ll lc : Nat) (mp : Option Addr) (nm mc : Nat) (dp : Option Addr) (nd dc : Nat) (rp : Option Addr) (nr rc : Nat) (qa : Option Addr) (ql qc : Nat) (va : Option Addr) (vl vc : Nat) (pa up mo ma po : Nat → Int) (w : World) (h : FlAt w dp rp mp nd nr nm pa up mo ma po) (h1 : nd ≤ 100) (h2 : nr ≤ 100) (h3 : nm ≤ 100) :
    Calls Try.prog 17 #[.agg #[.int .i64 ex, .slice la ll lc, .slice mp nm mc, .slice dp nd dc, .slice rp nr rc, .slice qa ql qc, .slice va vl vc]] w (NewIs w (L1 (pa) nd ++ L1 (ma) nr) (nd + nr)) := by
  have HB0 := Lib.hid (below_alloc w (.cells #[.int .i64 ex, .slice la ll lc, .slice mp nm mc, .slice dp nd dc, .slice rp nr rc, .slice qa ql qc, .slice va vl vc] 42))
  have HF := Lib.hid (h.below HB0.out (Nat.le_refl _))
  clear h
  obtain ⟨b0, hb0⟩ : ∃ x, w.heap.size = x := ⟨_, rfl⟩
  have HC2 := Lib.hid (show (w.alloc (.cells #[.int .i64 ex, .slice la ll lc, .slice mp nm mc, .slice dp nd dc, .slice rp nr rc, .slice qa ql qc, .slice va vl vc] 42)).cell? ⟨b0, 2, none⟩ = some (.slice mp nm mc) by rw [← hb0]; simp)
  have HC3 := Lib.hid (show (w.alloc (.cells #[.int .i64 ex, .slice la ll lc, .slice mp nm mc, .slice dp nd dc, .slice rp nr rc, .slice qa ql qc, .slice va vl vc] 42)).cell? ⟨b0, 3, none⟩ = some (.slice dp nd dc) by rw [← hb0]; simp)
  have HC4 := Lib.hid (show (w.alloc (.cells #[.int .i64 ex, .slice la ll lc, .slice mp nm mc, .slice dp nd dc, .slice rp nr rc, .slice qa ql qc, .slice va vl vc] 42)).cell? ⟨b0, 4, none⟩ = some (.slice rp nr rc) by rw [← hb0]; simp)
  have HLT := Lib.hid (show b0 < (w.alloc (.cells #[.int .i64 ex, .slice la ll lc, .slice mp nm mc, .slice dp nd dc, .slice rp nr rc, .slice qa ql qc, .slice va vl vc] 42)).heap.size by rw [← hb0]; simp)
  have HBE0 := Lib.hid hb0
  clear hb0
  go_enter Try.func17, Try.ntmps17
  go_wp2_with fail
  rw [HBE0.out]
  generalize w.alloc (.cells #[.int .i64 ex, .slice la ll lc, .slice mp nm mc, .slice dp nd dc, .slice rp nr rc, .slice qa ql qc, .slice va vl vc] 42) = w1 at *
  go_loopw [3, 11] (fun sl s wr => ∃ (k : Nat) (p : Option Addr) (c : Nat), sl = .slice p k c ∧ s = .int .i64 k ∧ k ≤ nd ∧ Hid (Own w1 wr (.slice p k c) (L1 (pa) k))) (fun _ s _ => nd - (intOf s).toNat)
  case atStart => exact ⟨0, none, 0, rfl, rfl, by omega, Own.start w1⟩
  case round =>
    rename World => wr
    obtain ⟨k, p, c, rfl, rfl, hk, HV⟩ := hrel
    have d2 := (HV.out.below.cell (p := ⟨b0, 2, none⟩) HLT.out).trans HC2.out
    have d3 := (HV.out.below.cell (p := ⟨b0, 3, none⟩) HLT.out).trans HC3.out
    have d4 := (HV.out.below.cell (p := ⟨b0, 4, none⟩) HLT.out).trans HC4.out
    by_cases hkn : k < nd
    · obtain ⟨b, off, s, lv, ng, na, nl, nc, da, dl, dc2, rfl, hb, c0, c1, c2, c3, c4, c5, c6⟩ := (HF.out.d.below HV.out.below (Nat.le_refl _)) k hkn
      obtain ⟨x2, hx2⟩ : ∃ x, pa k = x := ⟨_, rfl⟩
      obtain ⟨x3, hx3⟩ : ∃ x, up k = x := ⟨_, rfl⟩
      rw [hx2] at c2
      rw [hx3] at c3
      have HC : True := trivial
      · have HN := Lib.hid (show L1 (pa) (k + 1) = L1 (pa) k ++ [x2] by rw [L1_succ, show (pa) k = x2 by (first | exact hx2 | exact hy2 | rfl | (skip))])
        have HV1 := Lib.hid ((HV.out.grow (below_alloc wr (.cells #[.string s, .int .i64 lv, .int .i64 x2, .int .i64 x3, .bool ng, .slice na nl nc, .slice da dl dc2] 68))).grow (below_alloc _ (.cells #[.int .i64 x2] 3)))
        clear hx2 hx3 HC
        go_wp2_with (first
          | (at_builtin; refine wpList_push (l := L1 (pa) k) (z := x2) _ _ rfl rfl rfl rfl HV1.out (by simp) (by simp) (by rw [len_L1]; omega) ?_; intro p2 c2 w2 HO2; rw [len_L1] at HO2; rw [len_L1]))
        go_roundw
        case rel => exact ⟨k + 1, p2, c2, by go_num, by go_num, by omega, by rw [HN.out]; exact HO2⟩
        case measure => simp [intOf]; omega
    · obtain rfl : k = nd := by omega
      go_wp2_with fail
      go_loopw [3, 24] (fun sl s wq => ∃ (i : Nat) (p : Option Addr) (c : Nat), sl = .slice p (k + i) c ∧ s = .int .i64 i ∧ i ≤ nr ∧ Hid (Own w1 wq (.slice p (k + i) c) (L1 (pa) k ++ L1 (ma) i))) (fun _ s _ => nr - (intOf s).toNat)
      case atStart => exact ⟨0, p, c, rfl, rfl, by omega, by rw [show L1 (ma) 0 = [] from rfl, List.append_nil]; exact HV⟩
      case round =>
        rename World => wq
        clear HV d2 d3 d4
        obtain ⟨i, p, c, rfl, rfl, hi, HV⟩ := hrel
        have d2 := (HV.out.below.cell (p := ⟨b0, 2, none⟩) HLT.out).trans HC2.out
        have d3 := (HV.out.below.cell (p := ⟨b0, 3, none⟩) HLT.out).trans HC3.out
        have d4 := (HV.out.below.cell (p := ⟨b0, 4, none⟩) HLT.out).trans HC4.out
        have hb0l : b0 < wq.heap.size := Nat.lt_of_lt_of_le HLT.out HV.out.below.size
        by_cases hin : i < nr
        · obtain ⟨b, off, s, rfl, hb, c0, c1, c2⟩ := (HF.out.r.below HV.out.below (Nat.le_refl _)) i hin
          obtain ⟨y1, hy1⟩ : ∃ x, mo i = x := ⟨_, rfl⟩
          obtain ⟨y2, hy2⟩ : ∃ x, ma i = x := ⟨_, rfl⟩
          rw [hy1] at c1
          rw [hy2] at c2
          have HN := Lib.hid (show L1 (ma) (i + 1) = L1 (ma) i ++ [y2] by rw [L1_succ, show (ma) i = y2 by (first | exact hx2 | exact hy2 | rfl | (skip))])
          have HV1 := Lib.hid ((HV.out.grow (below_alloc wq (.cells #[.string s, .int .i64 y1, .int .i64 y2] 70))).grow (below_alloc _ (.cells #[.int .i64 y2] 3)))
          clear hy1 hy2
          go_wp2_with (first
            | (at_builtin; refine wpList_push (l := L1 (pa) k ++ L1 (ma) i) (z := y2) _ _ rfl rfl rfl rfl HV1.out (by simp) (by simp) (by rw [List.length_append, len_L1, len_L1]; omega) ?_; intro p2 c2 w2 HO2; rw [List.length_append, len_L1, len_L1] at HO2; rw [List.length_append, len_L1, len_L1]))
          go_roundw
          case rel => exact ⟨i + 1, p2, c2, rfl, by go_num, by omega, by rw [HN.out, ← List.append_assoc]; exact HO2⟩
          case measure => simp [intOf]; omega
        · obtain rfl : i = nr := by omega
          have HE := Lib.hid (show IntsAt wq (.slice p (k + i) c) (L1 (pa) k ++ L1 (ma) i) from HV.out.at (by rw [List.length_append, len_L1, len_L1]; omega))
          have HBE := Lib.hid (HB0.out.trans (HV.out.below.mono HB0.out.size))
          go_wp2_with fail
          go_ret
          exact ⟨_, _, rfl, HE.out, HBE.out⟩

set_option maxRecDepth 20000 in
set_option maxHeartbeats 8000000 in
theorem rtree_any (ex : Int) (la : Option Addr) (ll lc : Nat) (mp : Option Addr) (nm mc : Nat) (dp : Option Addr) (nd dc : Nat) (rp : Option Addr) (nr rc : Nat) (qa : Option Addr) (ql qc : Nat) (va : Option Addr) (vl vc : Nat) (pa up mo ma po : Nat → Int) (w : World) (h : FlAt w dp rp mp nd nr nm pa up mo ma po) (h1 : nd ≤ 100) (h2 : nr ≤ 100) (h3 : nm ≤ 100) :
    Calls Try.prog 18 #[.agg #[.int .i64 ex, .slice la ll lc, .slice mp nm mc, .slice dp nd dc, .slice rp nr rc, .slice qa ql qc, .slice va vl vc]] w (NewIs w (L1 (pa) nd ++ L1 (ma) nr) (nd + nr)) := by
  have HB0 := Lib.hid (below_alloc w (.cells #[.int .i64 ex, .slice la ll lc, .slice mp nm mc, .slice dp nd dc, .slice rp nr rc, .slice qa ql qc, .slice va vl vc] 42))
  have HF := Lib.hid (h.below HB0.out (Nat.le_refl _))
  clear h
  obtain ⟨b0, hb0⟩ : ∃ x, w.heap.size = x := ⟨_, rfl⟩
  have HC2 := Lib.hid (show (w.alloc (.cells #[.int .i64 ex, .slice la ll lc, .slice mp nm mc, .slice dp nd dc, .slice rp nr rc, .slice qa ql qc, .slice va vl vc] 42)).cell? ⟨b0, 2, none⟩ = some (.slice mp nm mc) by rw [← hb0]; simp)
  have HC3 := Lib.hid (show (w.alloc (.cells #[.int .i64 ex, .slice la ll lc, .slice mp nm mc, .slice dp nd dc, .slice rp nr rc, .slice qa ql qc, .slice va vl vc] 42)).cell? ⟨b0, 3, none⟩ = some (.slice dp nd dc) by rw [← hb0]; simp)
  have HC4 := Lib.hid (show (w.alloc (.cells #[.int .i64 ex, .slice la ll lc, .slice mp nm mc, .slice dp nd dc, .slice rp nr rc, .slice qa ql qc, .slice va vl vc] 42)).cell? ⟨b0, 4, none⟩ = some (.slice rp nr rc) by rw [← hb0]; simp)
  have HLT := Lib.hid (show b0 < (w.alloc (.cells #[.int .i64 ex, .slice la ll lc, .slice mp nm mc, .slice dp nd dc, .slice rp nr rc, .slice qa ql qc, .slice va vl vc] 42)).heap.size by rw [← hb0]; simp)
  have HBE0 := Lib.hid hb0
  clear hb0
  go_enter Try.func18, Try.ntmps18
  go_wp2_with fail
  rw [HBE0.out]
  generalize w.alloc (.cells #[.int .i64 ex, .slice la ll lc, .slice mp nm mc, .slice dp nd dc, .slice rp nr rc, .slice qa ql qc, .slice va vl vc] 42) = w1 at *
  go_loopw [3, 4] (fun sl s wr => ∃ (k : Nat) (p : Option Addr) (c : Nat), sl = .slice p k c ∧ s = .int .i64 k ∧ k ≤ nd ∧ Hid (Own w1 wr (.slice p k c) (L1 (pa) k))) (fun _ s _ => nd - (intOf s).toNat)
  case atStart => exact ⟨0, none, 0, rfl, rfl, by omega, Own.start w1⟩
  case round =>
    rename World => wr
    obtain ⟨k, p, c, rfl, rfl, hk, HV⟩ := hrel
    have d2 := (HV.out.below.cell (p := ⟨b0, 2, none⟩) HLT.out).trans HC2.out
    have d3 := (HV.out.below.cell (p := ⟨b0, 3, none⟩) HLT.out).trans HC3.out
    have d4 := (HV.out.below.cell (p := ⟨b0, 4, none⟩) HLT.out).trans HC4.out
    by_cases hkn : k < nd
    · obtain ⟨b, off, s, lv, ng, na, nl, nc, da, dl, dc2, rfl, hb, c0, c1, c2, c3, c4, c5, c6⟩ := (HF.out.d.below HV.out.below (Nat.le_refl _)) k hkn
      obtain ⟨x2, hx2⟩ : ∃ x, pa k = x := ⟨_, rfl⟩
      obtain ⟨x3, hx3⟩ : ∃ x, up k = x := ⟨_, rfl⟩
      rw [hx2] at c2
      rw [hx3] at c3
      have HC : True := trivial
      · have HN := Lib.hid (show L1 (pa) (k + 1) = L1 (pa) k ++ [x2] by rw [L1_succ, show (pa) k = x2 by (first | exact hx2 | exact hy2 | rfl | (skip))])
        have HV1 := Lib.hid (HV.out.grow (below_alloc wr (.cells #[.int .i64 x2] 3)))
        clear hx2 hx3 HC
        go_wp2_with (first
          | (at_builtin; refine wpList_push (l := L1 (pa) k) (z := x2) _ _ rfl rfl rfl rfl HV1.out (by simp) (by simp) (by rw [len_L1]; omega) ?_; intro p2 c2 w2 HO2; rw [len_L1] at HO2; rw [len_L1]))
        go_roundw
        case rel => exact ⟨k + 1, p2, c2, by go_num, by go_num, by omega, by rw [HN.out]; exact HO2⟩
        case measure => simp [intOf]; omega
    · obtain rfl : k = nd := by omega
      go_wp2_with fail
      go_loopw [3, 5] (fun sl s wq => ∃ (i : Nat) (p : Option Addr) (c : Nat), sl = .slice p (k + i) c ∧ s = .int .i64 i ∧ i ≤ nr ∧ Hid (Own w1 wq (.slice p (k + i) c) (L1 (pa) k ++ L1 (ma) i))) (fun _ s _ => nr - (intOf s).toNat)
      case atStart => exact ⟨0, p, c, rfl, rfl, by omega, by rw [show L1 (ma) 0 = [] from rfl, List.append_nil]; exact HV⟩
      case round =>
        rename World => wq
        clear HV d2 d3 d4
        obtain ⟨i, p, c, rfl, rfl, hi, HV⟩ := hrel
        have d2 := (HV.out.below.cell (p := ⟨b0, 2, none⟩) HLT.out).trans HC2.out
        have d3 := (HV.out.below.cell (p := ⟨b0, 3, none⟩) HLT.out).trans HC3.out
        have d4 := (HV.out.below.cell (p := ⟨b0, 4, none⟩) HLT.out).trans HC4.out
        have hb0l : b0 < wq.heap.size := Nat.lt_of_lt_of_le HLT.out HV.out.below.size
        by_cases hin : i < nr
        · obtain ⟨b, off, s, rfl, hb, c0, c1, c2⟩ := (HF.out.r.below HV.out.below (Nat.le_refl _)) i hin
          obtain ⟨y1, hy1⟩ : ∃ x, mo i = x := ⟨_, rfl⟩
          obtain ⟨y2, hy2⟩ : ∃ x, ma i = x := ⟨_, rfl⟩
          rw [hy1] at c1
          rw [hy2] at c2
          have HN := Lib.hid (show L1 (ma) (i + 1) = L1 (ma) i ++ [y2] by rw [L1_succ, show (ma) i = y2 by (first | exact hx2 | exact hy2 | rfl | (skip))])
          have HV1 := Lib.hid (HV.out.grow (below_alloc wq (.cells #[.int .i64 y2] 3)))
          clear hy1 hy2
          go_wp2_with (first
            | (at_builtin; refine wpList_push (l := L1 (pa) k ++ L1 (ma) i) (z := y2) _ _ rfl rfl rfl rfl HV1.out (by simp) (by simp) (by rw [List.length_append, len_L1, len_L1]; omega) ?_; intro p2 c2 w2 HO2; rw [List.length_append, len_L1, len_L1] at HO2; rw [List.length_append, len_L1, len_L1]))
          go_roundw
          case rel => exact ⟨i + 1, p2, c2, rfl, by go_num, by omega, by rw [HN.out, ← List.append_assoc]; exact HO2⟩
          case measure => simp [intOf]; omega
        · obtain rfl : i = nr := by omega
          have HE := Lib.hid (show IntsAt wq (.slice p (k + i) c) (L1 (pa) k ++ L1 (ma) i) from HV.out.at (by rw [List.length_append, len_L1, len_L1]; omega))
          have HBE := Lib.hid (HB0.out.trans (HV.out.below.mono HB0.out.size))
          go_wp2_with fail
          go_ret
          exact ⟨_, _, rfl, HE.out, HBE.out⟩

set_option maxRecDepth 20000 in
set_option maxHeartbeats 8000000 in
theorem caps_any (ex : Int) (la : Option Addr) (ll lc : Nat) (mp : Option Addr) (nm mc : Nat) (dp : Option Addr) (nd dc : Nat) (rp : Option Addr) (nr rc : Nat) (qa : Option Addr) (ql qc : Nat) (va : Option Addr) (vl vc : Nat) (pa up mo ma po : Nat → Int) (w : World) (h : FlAt w dp rp mp nd nr nm pa up mo ma po) (h1 : nd ≤ 100) (h2 : nr ≤ 100) (h3 : nm ≤ 100) :
    Calls Try.prog 19 #[.agg #[.int .i64 ex, .slice la ll lc, .slice mp nm mc, .slice dp nd dc, .slice rp nr rc, .slice qa ql qc, .slice va vl vc]] w (NewIs w (L1 (capD up) nd ++ L1 (capR nm mo po) nr) (nd + nr)) := by
  have HB0 := Lib.hid (below_alloc w (.cells #[.int .i64 ex, .slice la ll lc, .slice mp nm mc, .slice dp nd dc, .slice rp nr rc, .slice qa ql qc, .slice va vl vc] 42))
  have HF := Lib.hid (h.below HB0.out (Nat.le_refl _))
  clear h
  obtain ⟨b0, hb0⟩ : ∃ x, w.heap.size = x := ⟨_, rfl⟩
  have HC2 := Lib.hid (show (w.alloc (.cells #[.int .i64 ex, .slice la ll lc, .slice mp nm mc, .slice dp nd dc, .slice rp nr rc, .slice qa ql qc, .slice va vl vc] 42)).cell? ⟨b0, 2, none⟩ = some (.slice mp nm mc) by rw [← hb0]; simp)
  have HC3 := Lib.hid (show (w.alloc (.cells #[.int .i64 ex, .slice la ll lc, .slice mp nm mc, .slice dp nd dc, .slice rp nr rc, .slice qa ql qc, .slice va vl vc] 42)).cell? ⟨b0, 3, none⟩ = some (.slice dp nd dc) by rw [← hb0]; simp)
  have HC4 := Lib.hid (show (w.alloc (.cells #[.int .i64 ex, .slice la ll lc, .slice mp nm mc, .slice dp nd dc, .slice rp nr rc, .slice qa ql qc, .slice va vl vc] 42)).cell? ⟨b0, 4, none⟩ = some (.slice rp nr rc) by rw [← hb0]; simp)
  have HLT := Lib.hid (show b0 < (w.alloc (.cells #[.int .i64 ex, .slice la ll lc, .slice mp nm mc, .slice dp nd dc, .slice rp nr rc, .slice qa ql qc, .slice va vl vc] 42)).heap.size by rw [← hb0]; simp)
  have HBE0 := Lib.hid hb0
  clear hb0
  go_enter Try.func19, Try.ntmps19
  go_wp2_with fail
  rw [HBE0.out]
  generalize w.alloc (.cells #[.int .i64 ex, .slice la ll lc, .slice mp nm mc, .slice dp nd dc, .slice rp nr rc, .slice qa ql qc, .slice va vl vc] 42) = w1 at *
  go_loopw [3, 12] (fun sl s wr => ∃ (k : Nat) (p : Option Addr) (c : Nat), sl = .slice p k c ∧ s = .int .i64 k ∧ k ≤ nd ∧ Hid (Own w1 wr (.slice p k c) (L1 (capD up) k))) (fun _ s _ => nd - (intOf s).toNat)
  case atStart => exact ⟨0, none, 0, rfl, rfl, by omega, Own.start w1⟩
  case round =>
    rename World => wr
    obtain ⟨k, p, c, rfl, rfl, hk, HV⟩ := hrel
    have d2 := (HV.out.below.cell (p := ⟨b0, 2, none⟩) HLT.out).trans HC2.out
    have d3 := (HV.out.below.cell (p := ⟨b0, 3, none⟩) HLT.out).trans HC3.out
    have d4 := (HV.out.below.cell (p := ⟨b0, 4, none⟩) HLT.out).trans HC4.out
    by_cases hkn : k < nd
    · obtain ⟨b, off, s, lv, ng, na, nl, nc, da, dl, dc2, rfl, hb, c0, c1, c2, c3, c4, c5, c6⟩ := (HF.out.d.below HV.out.below (Nat.le_refl _)) k hkn
      obtain ⟨x2, hx2⟩ : ∃ x, pa k = x := ⟨_, rfl⟩
      obtain ⟨x3, hx3⟩ : ∃ x, up k = x := ⟨_, rfl⟩
      rw [hx2] at c2
      rw [hx3] at c3
      have HC : True := trivial
      by_cases hk0 : k = 0
      · have qk : ((k : Int) == 0) = true := by simp; omega
        have HN := Lib.hid (show L1 (capD up) (k + 1) = L1 (capD up) k ++ [(0 : Int)] by rw [L1_succ, show (capD up) k = (0 : Int) by (first | exact hx2 | exact hy2 | rfl | (skip; unfold capD; rw [if_pos hk0]))])
        have HV1 := Lib.hid ((HV.out.grow (below_alloc wr (.cells #[.string s, .int .i64 lv, .int .i64 x2, .int .i64 x3, .bool ng, .slice na nl nc, .slice da dl dc2] 68))).grow (below_alloc _ (.cells #[.int .i64 (0 : Int)] 3)))
        clear hx2 hx3 HC hk0
        go_wp2_with (first
          | (at_builtin; refine wpList_push (l := L1 (capD up) k) (z := (0 : Int)) _ _ rfl rfl rfl rfl HV1.out (by simp) (by simp) (by rw [len_L1]; omega) ?_; intro p2 c2 w2 HO2; rw [len_L1] at HO2; rw [len_L1]))
        go_roundw
        case rel => exact ⟨k + 1, p2, c2, by go_num, by go_num, by omega, by rw [HN.out]; exact HO2⟩
        case measure => simp [intOf]; omega
      · have hk1 : 1 ≤ k := by omega
        have qk : ((k : Int) == 0) = false := by simp; omega
        have HN := Lib.hid (show L1 (capD up) (k + 1) = L1 (capD up) k ++ [x3] by rw [L1_succ, show (capD up) k = x3 by (first | exact hx2 | exact hy2 | rfl | (skip; unfold capD; rw [if_neg hk0, hx3]))])
        have HV1 := Lib.hid ((HV.out.grow (below_alloc wr (.cells #[.string s, .int .i64 lv, .int .i64 x2, .int .i64 x3, .bool ng, .slice na nl nc, .slice da dl dc2] 68))).grow (below_alloc _ (.cells #[.int .i64 x3] 3)))
        clear hx2 hx3 HC
        go_wp2_with (first
          | (at_builtin; refine wpList_push (l := L1 (capD up) k) (z := x3) _ _ rfl rfl rfl rfl HV1.out (by simp) (by simp) (by rw [len_L1]; omega) ?_; intro p2 c2 w2 HO2; rw [len_L1] at HO2; rw [len_L1]))
        go_roundw
        case rel => exact ⟨k + 1, p2, c2, by go_num, by go_num, by omega, by rw [HN.out]; exact HO2⟩
        case measure => simp [intOf]; omega
    · obtain rfl : k = nd := by omega
      go_wp2_with fail
      go_loopw [3, 31] (fun sl s wq => ∃ (i : Nat) (p : Option Addr) (c : Nat), sl = .slice p (k + i) c ∧ s = .int .i64 i ∧ i ≤ nr ∧ Hid (Own w1 wq (.slice p (k + i) c) (L1 (capD up) k ++ L1 (capR nm mo po) i))) (fun _ s _ => nr - (intOf s).toNat)
      case atStart => exact ⟨0, p, c, rfl, rfl, by omega, by rw [show L1 (capR nm mo po) 0 = [] from rfl, List.append_nil]; exact HV⟩
      case round =>
        rename World => wq
        clear HV d2 d3 d4
        obtain ⟨i, p, c, rfl, rfl, hi, HV⟩ := hrel
        have d2 := (HV.out.below.cell (p := ⟨b0, 2, none⟩) HLT.out).trans HC2.out
        have d3 := (HV.out.below.cell (p := ⟨b0, 3, none⟩) HLT.out).trans HC3.out
        have d4 := (HV.out.below.cell (p := ⟨b0, 4, none⟩) HLT.out).trans HC4.out
        have hb0l : b0 < wq.heap.size := Nat.lt_of_lt_of_le HLT.out HV.out.below.size
        by_cases hin : i < nr
        · obtain ⟨b, off, s, rfl, hb, c0, c1, c2⟩ := (HF.out.r.below HV.out.below (Nat.le_refl _)) i hin
          obtain ⟨y1, hy1⟩ : ∃ x, mo i = x := ⟨_, rfl⟩
          obtain ⟨y2, hy2⟩ : ∃ x, ma i = x := ⟨_, rfl⟩
          rw [hy1] at c1
          rw [hy2] at c2
          by_cases g0 : 0 ≤ y1
          · have w0 : decide (0 ≤ y1) = true := by simpa using g0
            by_cases g1 : y1 < nm
            · clear w0
              obtain ⟨j, rfl⟩ : ∃ j : Nat, y1 = j := ⟨y1.toNat, by omega⟩
              obtain ⟨b5, off5, rfl, hb5, c9⟩ := (HF.out.m.below HV.out.below (Nat.le_refl _)) j (by omega)
              obtain ⟨y3, hy3⟩ : ∃ x, po j = x := ⟨_, rfl⟩
              rw [hy3] at c9
              have w1' : decide (j < nm) = true := by simp; omega
              have w3' : j < nm := by omega
              have HN := Lib.hid (show L1 (capR nm mo po) (i + 1) = L1 (capR nm mo po) i ++ [y3] by rw [L1_succ, show (capR nm mo po) i = y3 by (first | exact hx2 | exact hy2 | rfl | (skip; unfold capR; rw [hy1, if_pos ⟨g0, g1⟩, Int.toNat_natCast, hy3]))])
              have HV1 := Lib.hid ((HV.out.grow (below_alloc wq (.cells #[.string s, .int .i64 (j : Int), .int .i64 y2] 70))).grow (below_alloc _ (.cells #[.int .i64 y3] 3)))
              clear hy1 hy2 hy3
              go_wp2_with (first
                | (at_builtin; refine wpList_push (l := L1 (capD up) k ++ L1 (capR nm mo po) i) (z := y3) _ _ rfl rfl rfl rfl HV1.out (by simp) (by simp) (by rw [List.length_append, len_L1, len_L1]; omega) ?_; intro p2 c2 w2 HO2; rw [List.length_append, len_L1, len_L1] at HO2; rw [List.length_append, len_L1, len_L1]))
              go_roundw
              case rel => exact ⟨i + 1, p2, c2, rfl, by go_num, by omega, by rw [HN.out, ← List.append_assoc]; exact HO2⟩
              case measure => simp [intOf]; omega
            · have w1' : decide (y1 < (nm : Int)) = false := by simpa using g1
              have HN := Lib.hid (show L1 (capR nm mo po) (i + 1) = L1 (capR nm mo po) i ++ [(0 : Int)] by rw [L1_succ, show (capR nm mo po) i = (0 : Int) by (first | exact hx2 | exact hy2 | rfl | (skip; unfold capR; rw [hy1, if_neg (fun h => g1 h.2)]))])
              have HV1 := Lib.hid ((HV.out.grow (below_alloc wq (.cells #[.string s, .int .i64 y1, .int .i64 y2] 70))).grow (below_alloc _ (.cells #[.int .i64 (0 : Int)] 3)))
              clear hy1 hy2
              go_wp2_with (first
                | (at_builtin; refine wpList_push (l := L1 (capD up) k ++ L1 (capR nm mo po) i) (z := (0 : Int)) _ _ rfl rfl rfl rfl HV1.out (by simp) (by simp) (by rw [List.length_append, len_L1, len_L1]; omega) ?_; intro p2 c2 w2 HO2; rw [List.length_append, len_L1, len_L1] at HO2; rw [List.length_append, len_L1, len_L1]))
              go_roundw
              case rel => exact ⟨i + 1, p2, c2, rfl, by go_num, by omega, by rw [HN.out, ← List.append_assoc]; exact HO2⟩
              case measure => simp [intOf]; omega
          · have w0 : decide (0 ≤ y1) = false := by simpa using g0
            have HN := Lib.hid (show L1 (capR nm mo po) (i + 1) = L1 (capR nm mo po) i ++ [(0 : Int)] by rw [L1_succ, show (capR nm mo po) i = (0 : Int) by (first | exact hx2 | exact hy2 | rfl | (skip; unfold capR; rw [hy1, if_neg (fun h => g0 h.1)]))])
            have HV1 := Lib.hid ((HV.out.grow (below_alloc wq (.cells #[.string s, .int .i64 y1, .int .i64 y2] 70))).grow (below_alloc _ (.cells #[.int .i64 (0 : Int)] 3)))
            clear hy1 hy2
            go_wp2_with (first
              | (at_builtin; refine wpList_push (l := L1 (capD up) k ++ L1 (capR nm mo po) i) (z := (0 : Int)) _ _ rfl rfl rfl rfl HV1.out (by simp) (by simp) (by rw [List.length_append, len_L1, len_L1]; omega) ?_; intro p2 c2 w2 HO2; rw [List.length_append, len_L1, len_L1] at HO2; rw [List.length_append, len_L1, len_L1]))
            go_roundw
            case rel => exact ⟨i + 1, p2, c2, rfl, by go_num, by omega, by rw [HN.out, ← List.append_assoc]; exact HO2⟩
            case measure => simp [intOf]; omega
        · obtain rfl : i = nr := by omega
          have HE := Lib.hid (show IntsAt wq (.slice p (k + i) c) (L1 (capD up) k ++ L1 (capR nm mo po) i) from HV.out.at (by rw [List.length_append, len_L1, len_L1]; omega))
          have HBE := Lib.hid (HB0.out.trans (HV.out.below.mono HB0.out.size))
          go_wp2_with fail
          go_ret
          exact ⟨_, _, rfl, HE.out, HBE.out⟩

set_option maxRecDepth 20000 in
set_option maxHeartbeats 8000000 in
theorem rcaps_any (ex : Int) (la : Option Addr) (ll lc : Nat) (mp : Option Addr) (nm mc : Nat) (dp : Option Addr) (nd dc : Nat) (rp : Option Addr) (nr rc : Nat) (qa : Option Addr) (ql qc : Nat) (va : Option Addr) (vl vc : Nat) (pa up mo ma po : Nat → Int) (w : World) (h : FlAt w dp rp mp nd nr nm pa up mo ma po) (h1 : nd ≤ 100) (h2 : nr ≤ 100) (h3 : nm ≤ 100) :
    Calls Try.prog 20 #[.agg #[.int .i64 ex, .slice la ll lc, .slice mp nm mc, .slice dp nd dc, .slice rp nr rc, .slice qa ql qc, .slice va vl vc]] w (NewIs w (L1 (capD up) nd ++ L1 (capR nm mo po) nr) (nd + nr)) := by
  have HB0 := Lib.hid (below_alloc w (.cells #[.int .i64 ex, .slice la ll lc, .slice mp nm mc, .slice dp nd dc, .slice rp nr rc, .slice qa ql qc, .slice va vl vc] 42))
  have HF := Lib.hid (h.below HB0.out (Nat.le_refl _))
  clear h
  obtain ⟨b0, hb0⟩ : ∃ x, w.heap.size = x := ⟨_, rfl⟩
  have HC2 := Lib.hid (show (w.alloc (.cells #[.int .i64 ex, .slice la ll lc, .slice mp nm mc, .slice dp nd dc, .slice rp nr rc, .slice qa ql qc, .slice va vl vc] 42)).cell? ⟨b0, 2, none⟩ = some (.slice mp nm mc) by rw [← hb0]; simp)
  have HC3 := Lib.hid (show (w.alloc (.cells #[.int .i64 ex, .slice la ll lc, .slice mp nm mc, .slice dp nd dc, .slice rp nr rc, .slice qa ql qc, .slice va vl vc] 42)).cell? ⟨b0, 3, none⟩ = some (.slice dp nd dc) by rw [← hb0]; simp)
  have HC4 := Lib.hid (show (w.alloc (.cells #[.int .i64 ex, .slice la ll lc, .slice mp nm mc, .slice dp nd dc, .slice rp nr rc, .slice qa ql qc, .slice va vl vc] 42)).cell? ⟨b0, 4, none⟩ = some (.slice rp nr rc) by rw [← hb0]; simp)
  have HLT := Lib.hid (show b0 < (w.alloc (.cells #[.int .i64 ex, .slice la ll lc, .slice mp nm mc, .slice dp nd dc, .slice rp nr rc, .slice qa ql qc, .slice va vl vc] 42)).heap.size by rw [← hb0]; simp)
  have HBE0 := Lib.hid hb0
  clear hb0
  go_enter Try.func20, Try.ntmps20
  go_wp2_with fail
  rw [HBE0.out]
  generalize w.alloc (.cells #[.int .i64 ex, .slice la ll lc, .slice mp nm mc, .slice dp nd dc, .slice rp nr rc, .slice qa ql qc, .slice va vl vc] 42) = w1 at *
  go_loopw [3, 4] (fun sl s wr => ∃ (k : Nat) (p : Option Addr) (c : Nat), sl = .slice p k c ∧ s = .int .i64 k ∧ k ≤ nd ∧ Hid (Own w1 wr (.slice p k c) (L1 (capD up) k))) (fun _ s _ => nd - (intOf s).toNat)
  case atStart => exact ⟨0, none, 0, rfl, rfl, by omega, Own.start w1⟩
  case round =>
    rename World => wr
    obtain ⟨k, p, c, rfl, rfl, hk, HV⟩ := hrel
    have d2 := (HV.out.below.cell (p := ⟨b0, 2, none⟩) HLT.out).trans HC2.out
    have d3 := (HV.out.below.cell (p := ⟨b0, 3, none⟩) HLT.out).trans HC3.out
    have d4 := (HV.out.below.cell (p := ⟨b0, 4, none⟩) HLT.out).trans HC4.out
    by_cases hkn : k < nd
    · obtain ⟨b, off, s, lv, ng, na, nl, nc, da, dl, dc2, rfl, hb, c0, c1, c2, c3, c4, c5, c6⟩ := (HF.out.d.below HV.out.below (Nat.le_refl _)) k hkn
      obtain ⟨x2, hx2⟩ : ∃ x, pa k = x := ⟨_, rfl⟩
      obtain ⟨x3, hx3⟩ : ∃ x, up k = x := ⟨_, rfl⟩
      rw [hx2] at c2
      rw [hx3] at c3
      have HC : True := trivial
      by_cases hk0 : k = 0
      · have qk : ((k : Int) == 0) = true := by simp; omega
        have HN := Lib.hid (show L1 (capD up) (k + 1) = L1 (capD up) k ++ [(0 : Int)] by rw [L1_succ, show (capD up) k = (0 : Int) by (first | exact hx2 | exact hy2 | rfl | (skip; unfold capD; rw [if_pos hk0]))])
        have HV1 := Lib.hid (HV.out.grow (below_alloc wr (.cells #[.int .i64 (0 : Int)] 3)))
        clear hx2 hx3 HC hk0
        go_wp2_with (first
          | (at_builtin; refine wpList_push (l := L1 (capD up) k) (z := (0 : Int)) _ _ rfl rfl rfl rfl HV1.out (by simp) (by simp) (by rw [len_L1]; omega) ?_; intro p2 c2 w2 HO2; rw [len_L1] at HO2; rw [len_L1]))
        go_roundw
        case rel => exact ⟨k + 1, p2, c2, by go_num, by go_num, by omega, by rw [HN.out]; exact HO2⟩
        case measure => simp [intOf]; omega
      · have hk1 : 1 ≤ k := by omega
        have qk : ((k : Int) == 0) = false := by simp; omega
        have HN := Lib.hid (show L1 (capD up) (k + 1) = L1 (capD up) k ++ [x3] by rw [L1_succ, show (capD up) k = x3 by (first | exact hx2 | exact hy2 | rfl | (skip; unfold capD; rw [if_neg hk0, hx3]))])
        have HV1 := Lib.hid (HV.out.grow (below_alloc wr (.cells #[.int .i64 x3] 3)))
        clear hx2 hx3 HC
        go_wp2_with (first
          | (at_builtin; refine wpList_push (l := L1 (capD up) k) (z := x3) _ _ rfl rfl rfl rfl HV1.out (by simp) (by simp) (by rw [len_L1]; omega) ?_; intro p2 c2 w2 HO2; rw [len_L1] at HO2; rw [len_L1]))
        go_roundw
        case rel => exact ⟨k + 1, p2, c2, by go_num, by go_num, by omega, by rw [HN.out]; exact HO2⟩
        case measure => simp [intOf]; omega
    · obtain rfl : k = nd := by omega
      go_wp2_with fail
      go_loopw [3, 6] (fun sl s wq => ∃ (i : Nat) (p : Option Addr) (c : Nat), sl = .slice p (k + i) c ∧ s = .int .i64 i ∧ i ≤ nr ∧ Hid (Own w1 wq (.slice p (k + i) c) (L1 (capD up) k ++ L1 (capR nm mo po) i))) (fun _ s _ => nr - (intOf s).toNat)
      case atStart => exact ⟨0, p, c, rfl, rfl, by omega, by rw [show L1 (capR nm mo po) 0 = [] from rfl, List.append_nil]; exact HV⟩
      case round =>
        rename World => wq
        clear HV d2 d3 d4
        obtain ⟨i, p, c, rfl, rfl, hi, HV⟩ := hrel
        have d2 := (HV.out.below.cell (p := ⟨b0, 2, none⟩) HLT.out).trans HC2.out
        have d3 := (HV.out.below.cell (p := ⟨b0, 3, none⟩) HLT.out).trans HC3.out
        have d4 := (HV.out.below.cell (p := ⟨b0, 4, none⟩) HLT.out).trans HC4.out
        have hb0l : b0 < wq.heap.size := Nat.lt_of_lt_of_le HLT.out HV.out.below.size
        by_cases hin : i < nr
        · obtain ⟨b, off, s, rfl, hb, c0, c1, c2⟩ := (HF.out.r.below HV.out.below (Nat.le_refl _)) i hin
          obtain ⟨y1, hy1⟩ : ∃ x, mo i = x := ⟨_, rfl⟩
          obtain ⟨y2, hy2⟩ : ∃ x, ma i = x := ⟨_, rfl⟩
          rw [hy1] at c1
          rw [hy2] at c2
          by_cases g0 : 0 ≤ y1
          · have w0 : decide (0 ≤ y1) = true := by simpa using g0
            by_cases g1 : y1 < nm
            · clear w0
              obtain ⟨j, rfl⟩ : ∃ j : Nat, y1 = j := ⟨y1.toNat, by omega⟩
              obtain ⟨b5, off5, rfl, hb5, c9⟩ := (HF.out.m.below HV.out.below (Nat.le_refl _)) j (by omega)
              obtain ⟨y3, hy3⟩ : ∃ x, po j = x := ⟨_, rfl⟩
              rw [hy3] at c9
              have w1' : decide (j < nm) = true := by simp; omega
              have w3' : j < nm := by omega
              have HN := Lib.hid (show L1 (capR nm mo po) (i + 1) = L1 (capR nm mo po) i ++ [y3] by rw [L1_succ, show (capR nm mo po) i = y3 by (first | exact hx2 | exact hy2 | rfl | (skip; unfold capR; rw [hy1, if_pos ⟨g0, g1⟩, Int.toNat_natCast, hy3]))])
              have HV1 := Lib.hid (fun q : Nat => ((HV.out.grow (below_drewN q (Below.refl _ wq))).grow (below_alloc (wq.drewN q) (.cells #[.int .i64 y3] 3))))
              clear hy1 hy2 hy3
              go_wp2_with fail
              go_quiet (fail)
              go_wp2_with (first
                | (at_builtin; refine wpList_push (l := L1 (capD up) k ++ L1 (capR nm mo po) i) (z := y3) _ _ rfl rfl rfl rfl (HV1.out nq) (new_cell _ _ _ _ rfl) (by simp) (by rw [List.length_append, len_L1, len_L1]; omega) ?_; intro p2 c2 w2 HO2; rw [List.length_append, len_L1, len_L1] at HO2; rw [List.length_append, len_L1, len_L1]))
              go_roundw
              case rel => exact ⟨i + 1, p2, c2, rfl, by go_num, by omega, by rw [HN.out, ← List.append_assoc]; exact HO2⟩
              case measure => simp [intOf]; omega
            · have w1' : decide (y1 < (nm : Int)) = false := by simpa using g1
              have HN := Lib.hid (show L1 (capR nm mo po) (i + 1) = L1 (capR nm mo po) i ++ [(0 : Int)] by rw [L1_succ, show (capR nm mo po) i = (0 : Int) by (first | exact hx2 | exact hy2 | rfl | (skip; unfold capR; rw [hy1, if_neg (fun h => g1 h.2)]))])
              have HV1 := Lib.hid (fun q : Nat => ((HV.out.grow (below_drewN q (Below.refl _ wq))).grow (below_alloc (wq.drewN q) (.cells #[.int .i64 (0 : Int)] 3))))
              clear hy1 hy2
              go_wp2_with fail
              go_quiet (fail)
              go_wp2_with (first
                | (at_builtin; refine wpList_push (l := L1 (capD up) k ++ L1 (capR nm mo po) i) (z := (0 : Int)) _ _ rfl rfl rfl rfl (HV1.out nq) (new_cell _ _ _ _ rfl) (by simp) (by rw [List.length_append, len_L1, len_L1]; omega) ?_; intro p2 c2 w2 HO2; rw [List.length_append, len_L1, len_L1] at HO2; rw [List.length_append, len_L1, len_L1]))
              go_roundw
              case rel => exact ⟨i + 1, p2, c2, rfl, by go_num, by omega, by rw [HN.out, ← List.append_assoc]; exact HO2⟩
              case measure => simp [intOf]; omega
          · have w0 : decide (0 ≤ y1) = false := by simpa using g0
            have HN := Lib.hid (show L1 (capR nm mo po) (i + 1) = L1 (capR nm mo po) i ++ [(0 : Int)] by rw [L1_succ, show (capR nm mo po) i = (0 : Int) by (first | exact hx2 | exact hy2 | rfl | (skip; unfold capR; rw [hy1, if_neg (fun h => g0 h.1)]))])
            have HV1 := Lib.hid (fun q : Nat => ((HV.out.grow (below_drewN q (Below.refl _ wq))).grow (below_alloc (wq.drewN q) (.cells #[.int .i64 (0 : Int)] 3))))
            clear hy1 hy2
            go_wp2_with fail
            go_quiet (fail)
            go_wp2_with (first
              | (at_builtin; refine wpList_push (l := L1 (capD up) k ++ L1 (capR nm mo po) i) (z := (0 : Int)) _ _ rfl rfl rfl rfl (HV1.out nq) (new_cell _ _ _ _ rfl) (by simp) (by rw [List.length_append, len_L1, len_L1]; omega) ?_; intro p2 c2 w2 HO2; rw [List.length_append, len_L1, len_L1] at HO2; rw [List.length_append, len_L1, len_L1]))
            go_roundw
            case rel => exact ⟨i + 1, p2, c2, rfl, by go_num, by omega, by rw [HN.out, ← List.append_assoc]; exact HO2⟩
            case measure => simp [intOf]; omega
        · obtain rfl : i = nr := by omega
          have HE := Lib.hid (show IntsAt wq (.slice p (k + i) c) (L1 (capD up) k ++ L1 (capR nm mo po) i) from HV.out.at (by rw [List.length_append, len_L1, len_L1]; omega))
          have HBE := Lib.hid (HB0.out.trans (HV.out.below.mono HB0.out.size))
          go_wp2_with fail
          go_ret
          exact ⟨_, _, rfl, HE.out, HBE.out⟩
end Go.Proofs.Ytkjamafpohnflaa
