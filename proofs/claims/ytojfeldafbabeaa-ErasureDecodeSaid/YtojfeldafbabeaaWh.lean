/- The walk of whole: the code word that contains all given rows. -/
import Derived.Test.YtojfeldafbabeaaPl
import Derived.MapKept
import Derived.Laws.StructEq
import Derived.Test.YtojfeldafbabeaaLt
set_option linter.unusedVariables false
set_option linter.unusedSimpArgs false
set_option linter.unnecessarySimpa false
namespace Go.Proofs.Ytojfeldafbabeaa
open Go.RowKit Go.Mem Go.Deep

theorem info4 : (Try.prog.info? 4).map (fun i => (i.zero, i.size, i.bytes)) = some (some (.bool false), 1, 1) := by kernel_rfl

theorem whole_code (k m : Int) (fs : List Frag) (vf : Value) (w : World) (hc : codeB k m = false) : Calls Try.prog 38 #[.int .i64 k, .int .i64 m, vf] w (NilPost 1 w) := by
  have HC := Lib.hid hc
  clear hc
  go_enter Try.func38, Try.ntmps38
  go_wp2_with (first | (go_at_call 30; refine (code_any _ _ _).mono ?_; rw [HC.out]; rintro e w2 ⟨rfl, rfl⟩))
  go_ret2
  exact ⟨rfl, Below.refl _ _⟩

/-- one row appended; blocks of other types stay -/
theorem app_row' {ops : Array Oper} {rest : List Oper} {o : Oper} {a : Act} {Q : Exit → Act → World → Prop} (hgd : o.guard = none) (s x : Operand)
    (ho : o.op = .call { callee := .builtin .append, args := #[s, x], argTypes := #[22, 22] }) {w0 W : World} {B b0 : Nat} {v y : Value} {vs : List Value} {rows : List (List Nat)} {l : List Nat} (n : Nat)
    (h : RowsO W B 31 5 v vs rows) (hl : rows.length = n) (hn : n ≤ 1000) (hy : Kept W B 5 y l) (hb : Below B w0 W) (hB : B ≤ W.heap.size) (hb0 : b0 = W.heap.size) (hs : a.eval s = v) (hx : a.eval x = .slice (some ⟨b0, 0, none⟩) 1 1)
    (hK : ∀ v' w', Hid (RowsO w' B 31 5 v' (vs ++ [y]) (rows ++ [l]) ∧ Below B w0 w' ∧ ∀ (g : Nat) (t : TypeId) (c : Array Value), W.heap[g]? = some (Obj.cells c t (0, 0)) → t ≠ 31 → w'.heap[g]? = some (Obj.cells c t (0, 0))) → wpList Try.prog ops Q rest (a.put o.dst v') w') : wpList Try.prog ops Q (o :: rest) a (W.alloc (.cells #[y] 31)) := by
  obtain ⟨i29, hi, hz0, hz1, hz2⟩ := info_parts info29
  subst hl hb0
  obtain ⟨ya, ycap, rfl, _⟩ := hy.1.open
  refine wpList_append_own _ hgd s x 22 ho B 31 i29 (.slice none 0 0) 1 24 Try.underlying22 hi hz0 hz1 hz2 rfl (by decide) v rows.length vs hs (h.outer.alloc _) ⟨W.heap.size, 0, none⟩ 1 1 [.slice ya l.length ycap] hx rfl (by intro j u hj; match j, hj with | 0, hj => (simp at hj; subst hj; simp [Addr.add])) (by intro u hu; simp at hu; subst hu; rfl) (by unfold maxLen; omega) (by omega) (by simp; omega) ?_
  intro v' w' h2 h3 _
  have hb1 : Below W.heap.size W (W.alloc (.cells #[.slice ya l.length ycap] 31)) := (Below.refl _ _).alloc (Nat.le_refl _) _
  refine hK v' w' (show _ ∧ _ from ⟨(h.below hb1).push (by decide) rfl (hy.below hb1) h2 h3, (hb.alloc hB _).grown h3 (by simp; omega) (fun b hb => (h.outer.lt b hb).1), fun g t c hc ht => ?_⟩)
  have hlt : g < W.heap.size := (Array.getElem?_eq_some_iff.1 hc).1
  have hc2 : (W.alloc (.cells #[.slice ya l.length ycap] 31)).heap[g]? = some (Obj.cells c t (0, 0)) := (hb1.block g hlt).trans hc
  refine (h3.block g (by simp; omega) (fun q => ?_)).trans hc2
  rcases (h.below hb1).outer.2 with ⟨rfl, _⟩ | ⟨g', cap, cur, rfl, _, hg, _⟩
  · simp [Value.ownBlock] at q
  · simp [Value.ownBlock] at q
    subst q
    rw [hc2] at hg
    cases hg
    exact ht rfl
theorem rowIs_keep {w w' : World} {g n : Nat} {t : TypeId} {f : Nat → Value} (h : w.rowIs g t n f) (hk : ∀ c, w.heap[g]? = some (Obj.cells c t (0, 0)) → w'.heap[g]? = some (Obj.cells c t (0, 0))) : w'.rowIs g t n f := by
  obtain ⟨c, hc, r⟩ := h
  exact ⟨c, hk c hc, r⟩

/-- the first rows of a slice of rows -/
theorem rowsO_head {w : World} {B n k cap g : Nat} {vs : List Value} {fs : List Frag} (h : RowsO w B 31 5 (.slice (some ⟨g, 0, none⟩) n cap) vs (rowsTo fs n)) (hk : k ≤ n) (hn : n ≤ 1000) : Mat w (.slice (some ⟨g, 0, none⟩) k cap) (rowsTo fs k) := by
  obtain ⟨us, ⟨a, c, q, h1, h2, h4, h3⟩, hl, hb⟩ := h.mat (by rw [rowsTo_len]; omega)
  rw [rowsTo_len] at hl
  rw [hl] at q h1 h4
  cases q
  refine ⟨us.take k, ⟨some ⟨g, 0, none⟩, cap, by simp [hl, Nat.min_eq_left hk], by simp; omega, h2, by simp; omega, ?_⟩, by simp [rowsTo_len, hl, Nat.min_eq_left hk], fun i x r hx hr => ?_⟩
  · by_cases h0 : k = 0
    · left; simp [h0]
    · right
      rcases h3 with h3 | ⟨b, off, q, hlt, hc⟩
      · rw [h3] at hl; simp at hl; omega
      · refine ⟨b, off, q, hlt, fun i hi => ?_⟩
        simp at hi
        have hik : i < k := by omega
        rw [hc i (by omega), List.getElem?_take, if_pos hik]
  · have hi : i < k := by
      rcases Nat.lt_or_ge i k with h | h
      · exact h
      · rw [List.getElem?_eq_none (by rw [rowsTo_len]; exact h)] at hr; cases hr
    rw [List.getElem?_take, if_pos hi] at hx
    refine hb i x r hx ?_
    simp [rowsTo, hi] at hr
    simp [rowsTo, show i < n by omega, hr]

theorem ownsRow_form' {w : World} {B n : Nat} {e : TypeId} {v : Value} {xs : List Value} (h : w.ownsRow B e 1 v n xs) (hn : 0 < n) : ∃ g cap, v = .slice (some ⟨g, 0, none⟩) n cap ∧ n ≤ cap := by
  rcases h.2 with ⟨_, h0⟩ | ⟨g, cap, cur, rfl, _, _, h1, _⟩
  · omega
  · exact ⟨g, cap, rfl, h1⟩

/-- the first value of a result -/
def tup0 : Value → Value
  | .tuple a => a.getD 0 undef
  | _ => undef
def Sx (wI w : World) : Prop := Below wI.heap.size wI w ∧ wI.heap.size < w.heap.size
def Tx (wI : World) (k a : Nat) (us : Nat → Value) (rows : Nat → List Nat) (w : World) : Prop := RowsF w wI.heap.size 31 5 k a us rows ∧ Sx wI w
def Vx (wI : World) (k a : Nat) (us : Nat → Value) (rows : Nat → List Nat) (l : List Nat) (u : Value) (w : World) : Prop :=
  (∃ p n c, u = .tuple #[.slice p n c, .int .i64 0]) ∧ Kept w wI.heap.size 5 (tup0 u) l ∧ Tx wI k a us rows w
theorem Sx.stable (wI : World) : Stable (Sx wI) := fun w w' h hb => ⟨h.1.trans (hb.mono h.1.size), Nat.lt_of_lt_of_le h.2 hb.size⟩
theorem Tx.stable (wI : World) (k a : Nat) (us : Nat → Value) (rows : Nat → List Nat) : Stable (Tx wI k a us rows) := fun w w' h hb => ⟨h.1.below hb, Sx.stable wI _ _ h.2 hb⟩
theorem Vx.stable (wI : World) (k a : Nat) (us : Nat → Value) (rows : Nat → List Nat) (l : List Nat) (u : Value) : Stable (Vx wI k a us rows l u) := fun w w' h hb => ⟨h.1, h.2.1.below hb, Tx.stable _ _ _ _ _ _ _ h.2.2 hb⟩

theorem not_inR {k m : Nat} {fs : List Frag} {j n : Nat} (hn : n = fs.length) (hj : j < n) (h : (fragD fs j).1 < 0 ∨ (k : Int) + m ≤ (fragD fs j).1) : verdict k m fs = 1 := by
  unfold verdict
  rw [if_pos]
  intro hI
  have := hI j (by omega)
  omega

/-- the word and OK, or nothing and the error -/
def WholePost (k m : Nat) (fs : List Frag) (w : World) (e : Ending) (w' : World) : Prop :=
  (verdict k m fs = 0 ∧ ∃ v, e = .returned (.tuple #[v, .int .i64 0]) ∧ Mat w' v (wordOf k m fs) ∧ Below w.heap.size w w') ∨
  (verdict k m fs ≠ 0 ∧ NilPost (verdict k m fs) w e w')

set_option maxRecDepth 100000 in
set_option maxHeartbeats 4000000 in
theorem whole_any (k m : Nat) (fs : List Frag) (vf : Value) (w : World) (hf : Frags w vf fs) (hc : codeB k m = true) (hb : ∀ i, i < fs.length → (fragD fs i).2.length ≤ 2000) (h30 : fs.length ≤ 30) :
    Calls Try.prog 38 #[.int .i64 k, .int .i64 m, vf] w (WholePost k m fs w) := by
  obtain ⟨a, b, ha, hb', h1, h6, h4, h8⟩ := codeB_nat hc
  have ha : k = a := by omega
  have hb' : m = b := by omega
  subst ha hb'
  obtain ⟨fa, fcap, rfl, hfl⟩ := hf.open
  obtain ⟨n, hn⟩ : ∃ n, n = fs.length := ⟨_, rfl⟩
  rw [← hn] at hf hb hfl h30 ⊢
  have hmk4 := run_make_row' (P := Try.prog) 62 4 (.bool false) 1 Try.underlying62 info4 rfl .i64 .i64 (k + m) (by omega) (by omega)
  rw [show ((k + m : Nat) : Int) = (k : Int) + m by omega] at hmk4
  have HF := Lib.hid hf
  have HB0 := Lib.hid hb
  have HN := Lib.hid hn
  have HC := Lib.hid hc
  clear hf hb hn hc
  go_enter Try.func38, Try.ntmps38
  go_wp2_with (first | (go_at_call 30; refine (code_any _ _ _).mono ?_; rw [HC.out]; rintro e w2 ⟨rfl, rfl⟩))
  clear ha hb'
  go_loopw [8, 10, 32] (fun v tw i wr => ∃ (j : Nat) (vs : List Value), j ≤ n ∧ i = .int .i64 j ∧ tw = .bool (dupTo fs j) ∧ Below w.heap.size w wr ∧ wr.rowIs w.heap.size 4 (k + m) (fun q => .bool (seenTo fs j q)) ∧ RowsO wr w.heap.size 31 5 v vs (rowsTo fs j) ∧ InR k m fs j) (fun _ _ i _ => n - (intOf i).toNat)
  case atStart =>
    exact ⟨0, [], by omega, rfl, rfl, (Below.refl _ _).alloc (Nat.le_refl _) _, (World.rowIs_made w (.bool false) (k + m) 4).congr (fun i _ => by simp [seenTo]), RowsO.nil _ _ _ _, fun i hi => by omega⟩
  case round =>
    rename World => wr
    obtain ⟨j, vs, hj, rfl, rfl, hbel, hseen, hrow, hin⟩ := hrel
    have HB := Lib.hid hbel
    have HS := Lib.hid hseen
    have HR := Lib.hid hrow
    have HI := Lib.hid hin
    clear hbel hseen hrow hin
    by_cases hjn : j < n
    · obtain ⟨fb, fo, y, he, hfb, hc0, hc1, hby⟩ := HF.out.cell (i := j) (by have := HN.out; omega)
      subst he
      have hc0' := (HB.out.cell (p := ⟨fb, fo + j * 2, none⟩) hfb).trans hc0
      have hc1' := (HB.out.cell (p := ⟨fb, fo + j * 2 + 1, none⟩) hfb).trans hc1
      obtain ⟨ya, ycap, rfl, hyl⟩ := hby.open
      obtain ⟨l, hl⟩ : ∃ l, l = (fragD fs j).2 := ⟨_, rfl⟩
      obtain ⟨x, hx⟩ : ∃ x, x = (fragD fs j).1 := ⟨_, rfl⟩
      rw [← hl] at hc1' hby hyl
      rw [← hx] at hc0'
      have HY := Lib.hid hby
      have HX := Lib.hid hx
      have HLL := Lib.hid hl
      clear hc0 hc1 hby hx hl
      obtain ⟨L, hL⟩ : ∃ L, L = l.length := ⟨_, rfl⟩
      rw [← hL] at hc1' hyl
      have HLn := Lib.hid hL
      clear hL
      by_cases hx0 : x < 0
      · have hd0 : decide (x < 0) = true := by simpa using hx0
        go_wp2_with fail
        go_ret2
        have hv := not_inR (k := k) (m := m) HN.out hjn (.inl (by rw [← HX.out]; exact hx0))
        exact .inr ⟨by rw [hv]; decide, by rw [hv]; exact ⟨rfl, (HB.out.alloc HB.out.size _)⟩⟩
      · have hd0 : decide (x < 0) = false := by simpa using hx0
        by_cases hxk : (k : Int) + m ≤ x
        · have hd1 : decide ((k : Int) + m ≤ x) = true := by simpa using hxk
          go_wp2_with fail
          go_ret2
          have hv := not_inR (k := k) (m := m) HN.out hjn (.inr (by rw [← HX.out]; exact hxk))
          exact .inr ⟨by rw [hv]; decide, by rw [hv]; exact ⟨rfl, (HB.out.alloc HB.out.size _)⟩⟩
        · obtain ⟨q, rfl⟩ : ∃ q : Nat, x = q := ⟨x.toNat, by omega⟩
          have hqk : q < k + m := by omega
          have hd1 : decide ((k : Int) + m ≤ q) = false := by simpa using hxk
          have hsq := HS.out.cell hqk
          have hfz := HS.out.frozen q
          have hge := HB.out.size
          obtain ⟨sq, hsqd⟩ : ∃ s, s = seenTo fs j q := ⟨_, rfl⟩
          obtain ⟨dj, hdj⟩ : ∃ d, d = dupTo fs j := ⟨_, rfl⟩
          rw [← hsqd] at hsq
          rw [← hdj]
          have HSQ := Lib.hid hsqd
          have HDJ := Lib.hid hdj
          clear hsqd hdj
          have hslt : w.heap.size < wr.heap.size := HS.out.lt
          clear hx0 hxk
          obtain ⟨WF, hWF⟩ : ∃ W, W = (wr.setCell ⟨w.heap.size, q, none⟩ (.bool true)).alloc (.cells #[.int .i64 q, .slice ya L ycap] 36) := ⟨_, rfl⟩
          have hB1 : Below w.heap.size w (wr.setCell ⟨w.heap.size, q, none⟩ (.bool true)) := HB.out.setCell (Nat.le_refl _) _
          have hBF : Below w.heap.size w WF := by rw [hWF]; exact hB1.alloc hB1.size _
          have hRF : RowsO WF w.heap.size 31 5 u8 vs (rowsTo fs j) := by
            obtain ⟨c, hc, _⟩ := HS.out
            rw [hWF]
            exact (HR.out.beside (Nat.le_refl _) hc (by decide) (by decide) (fun b hb => blk_setCell_other _ _ _ _ hb) (by simp)).below ((Below.refl _ _).alloc (Nat.le_refl _) _)
          have hSF : WF.rowIs w.heap.size 4 (k + m) (fun p => .bool (seenTo fs (j + 1) p)) := by
            rw [hWF]
            exact ((HS.out.set q _).congr fun p _ => by
              by_cases e : p = q
              · subst e; simp [seenTo, ← HX.out]
              · simp only [e, if_false, seenTo, ← HX.out]
                rw [show ((q : Int) == (p : Int)) = false by rw [beq_eq_false_iff_ne]; omega, Bool.or_false]).alloc _
          have hYF : Kept WF w.heap.size 5 (.slice ya L ycap) l := by
            have hy := HY.out
            rw [← HLn.out] at hy
            exact Kept.came hy hBF (Nat.le_refl _)
          have hszF : wr.heap.size + 1 = WF.heap.size := by rw [hWF]; simp
          have hgeF : w.heap.size ≤ WF.heap.size := by omega
          have HRF := Lib.hid hRF
          have HSF := Lib.hid hSF
          have HYF := Lib.hid hYF
          have HBF := Lib.hid hBF
          have HWF := Lib.hid hWF
          have hI2 : InR k m fs (j + 1) := fun i hi => by
            by_cases e : i = j
            · subst e; rw [← HX.out]; omega
            · exact HI.out i (by omega)
          have HI2 := Lib.hid hI2
          clear hRF hSF hYF hBF hWF hB1 hI2
          cases dj
          · go_wp2_with (first | (at_builtin; rw [← HWF.out]; go_loud (refine app_row' (w0 := w) (W := WF) rfl (.tmp 59) (.tmp 62) rfl (l := l) j HRF.out (rowsTo_len _ _) (by omega) HYF.out HBF.out hgeF (by first | rfl | exact hszF) rfl rfl ?_); intro v' w4 h4))
            go_roundw
            case rel =>
              exact ⟨j + 1, _, by omega, by go_num, by rw [dupTo, ← HDJ.out, ← HX.out, ← HSQ.out]; simp, h4.out.2.1, rowIs_keep HSF.out (fun c hc => h4.out.2.2 _ _ _ hc (by decide)), by rw [rowsTo_succ, ← HLL.out]; exact h4.out.1, HI2.out⟩
            case measure => simp [intOf]; omega
          · go_wp2_with (first | (at_builtin; rw [← HWF.out]; go_loud (refine app_row' (w0 := w) (W := WF) rfl (.tmp 59) (.tmp 62) rfl (l := l) j HRF.out (rowsTo_len _ _) (by omega) HYF.out HBF.out hgeF (by first | rfl | exact hszF) rfl rfl ?_); intro v' w4 h4))
            go_roundw
            case rel =>
              exact ⟨j + 1, _, by omega, by go_num, by rw [dupTo, ← HDJ.out]; simp, h4.out.2.1, rowIs_keep HSF.out (fun c hc => h4.out.2.2 _ _ _ hc (by decide)), by rw [rowsTo_succ, ← HLL.out]; exact h4.out.1, HI2.out⟩
            case measure => simp [intOf]; omega
    · obtain rfl : j = n := by omega
      have hgew := HB.out.size
      have hmat := (HR.out.mat (by rw [rowsTo_len]; omega))
      have HMt := Lib.hid hmat
      clear hmat hj hjn
      obtain ⟨dj, hdj⟩ : ∃ d, d = dupTo fs j := ⟨_, rfl⟩
      rw [← hdj]
      have HDJ := Lib.hid hdj
      clear hdj
      cases dj
      · by_cases hjk : j < k
        · have hd1 : decide ((j : Int) < (k : Int)) = true := by simpa using hjk
          go_wp2_with fail
          go_ret2
          have hv := verdict_short (k := k) (m := m) HN.out HI.out HDJ.out.symm hjk
          exact .inr ⟨by rw [hv]; decide, by rw [hv]; exact ⟨rfl, HB.out⟩⟩
        · have hd1 : decide ((j : Int) < (k : Int)) = false := by simpa using hjk
          obtain ⟨lv, hlv⟩ : ∃ b, b = levelB (rowsTo fs j) := ⟨_, rfl⟩
          have HLV := Lib.hid hlv
          clear hlv
          cases lv
          · go_wp2_with (first | (go_at_call 31; refine (level_any _ _ _ HMt.out).mono ?_; rw [← HLV.out]; rintro e w2 ⟨rfl, rfl⟩))
            go_ret2
            have hv := verdict_level (k := k) (m := m) HN.out HI.out HDJ.out.symm (by omega) (fun h => by have := (levelB_iff _).2 h; rw [← HLV.out] at this; cases this)
            exact .inr ⟨by rw [hv]; decide, by rw [hv]; exact ⟨rfl, HB.out⟩⟩
          · have hmk5 := run_make_row' (P := Try.prog) 22 31 (.slice none 0 0) 24 Try.underlying22 info29 rfl .i64 .i64 k (by omega) (by omega)
            go_wp2_with (first | (go_at_call 31; refine (level_any _ _ _ HMt.out).mono ?_; rw [← HLV.out]; rintro e w2 ⟨rfl, rfl⟩))
            go_loopw [80] (fun i wq => ∃ (a : Nat) (us : Nat → Value), a ≤ k ∧ i = .int .i64 a ∧ Below wr.heap.size wr wq ∧ RowsF wq wr.heap.size 31 5 k a us (fun i => genRow k (fragD fs i).1.toNat)) (fun i _ => k - (intOf i).toNat)
            case atStart => exact ⟨0, fun _ => undef, by omega, rfl, (Below.refl _ _).alloc (Nat.le_refl _) _, RowsF.made _ _ _ _ _ _⟩
            case round =>
              rename World => wq
              obtain ⟨a, us, hak, rfl, hbq, hrf⟩ := hrel
              have HBQ := Lib.hid hbq
              have HRF := Lib.hid hrf
              clear hbq hrf
              by_cases hak2 : a < k
              · obtain ⟨fb, fo, y, he, hfb, hc0, hc1, hby⟩ := HF.out.cell (i := a) (by have := HN.out; omega)
                subst he
                have hc0' := (HBQ.out.cell (p := ⟨fb, fo + a * 2, none⟩) (by show fb < wr.heap.size; omega)).trans ((HB.out.cell (p := ⟨fb, fo + a * 2, none⟩) hfb).trans hc0)
                have hia := HI.out a (by omega)
                obtain ⟨q, hq⟩ : ∃ q : Nat, q = (fragD fs a).1.toNat := ⟨_, rfl⟩
                have hqe : (fragD fs a).1 = (q : Int) := by omega
                rw [hqe] at hc0'
                have hqlt : q ≤ 8 := by omega
                have HQ := Lib.hid hq
                have hoc := HRF.out.outer.cell hak2
                have hof := HRF.out.outer.frozen a
                rw [if_neg (Nat.lt_irrefl a)] at hoc
                clear hc0 hc1 hby hia hqe hq
                go_wp2_with (first | (go_at_call 42; refine (coeffs_any _ _ _ (by omega) (by omega)).mono ?_; rintro e w5 ⟨_, rfl, hc1, ⟨rb, rn, rcap, rc, rfl, _, hc4⟩, hc2⟩; have HC5 := Lib.hid (And.intro (Kept.fresh (B := wr.heap.size) hc1 rfl hc4) hc2); have hoc5 := (hc2.cell (p := ⟨wr.heap.size, a, none⟩) HRF.out.lt).trans hoc; have hof5 := (HRF.out.below hc2).outer.frozen a; clear hc1 hc2))
                go_roundw
                case rel =>
                  exact ⟨a + 1, _, by omega, by go_num, (HBQ.out.trans (HC5.out.2.mono HBQ.out.size)).setCell (Nat.le_refl _) _, (HRF.out.below HC5.out.2).set (by decide) (by rw [← HQ.out]; exact HC5.out.1)⟩
                case measure => simp [intOf]; omega
              · obtain rfl : a = k := by omega
                have hmG := HRF.out.mat (by unfold maxLen; omega) (by omega)
                have HMG := Lib.hid hmG
                clear hmG hak hak2
                have hgw := HB.out.size
                have hgq := HBQ.out.size
                obtain ⟨g, cap, rfl, hgg⟩ := ownsRow_form' (HR.out.outer) (by rw [rowsTo_len]; omega)
                rw [rowsTo_len]
                have hno : dupTo fs a = false := by
                  cases h : dupTo fs a with
                  | false => rfl
                  | true =>
                    obtain ⟨x, y, h1, h2, h3⟩ := (dupTo_iff fs a).1 h
                    have := (dupTo_iff fs j).2 ⟨x, y, h1, by omega, h3⟩
                    rw [← HDJ.out] at this; cases this
                obtain ⟨u, hu⟩ := gen_ok (k := a) (m := m) (fs := fs) h8 (fun i hi => HI.out i (by omega)) hno
                have HU := Lib.hid hu
                clear hu hno
                go_wp2_with (first | (go_at_call 21; refine (invert_sq (genMat a fs) a _ _ HMG.out (genMat_len _ _) h1 (by omega) (fun i hi => by rw [genMat_row fs hi, genRow_len])).mono ?_; rintro e wI (⟨u', vi, hu', rfl, hm', hb'⟩ | ⟨hu', _⟩); (have hmi : Mat wI vi (invOf a (genMat a fs)) := (by rw [invOf_eq hu']; exact hm'); have HMI := Lib.hid hmi; have HBI := Lib.hid hb'; clear hu' hm' hb' hmi); rotate_left 1; (exfalso; rw [HU.out] at hu'; cases hu')))
                have hrows : Mat wI (.slice (some ⟨g, 0, none⟩) a cap) (rowsTo fs a) := by
                  have h := HR.out
                  rw [rowsTo_len] at h
                  exact ((rowsO_head h (by omega) (by omega)).below HBQ.out (Nat.le_refl _)).below HBI.out (Nat.le_refl _)
                have HRW := Lib.hid hrows
                obtain ⟨ia, icap, rfl, _⟩ := HMI.out.open
                have hil : (invOf a (genMat a fs)).length = a := by rw [invOf_eq HU.out]; simp [outRows]
                have HIL := Lib.hid hil
                rw [hil]
                have hgi := HBI.out.size
                clear hrows hil
                have hcapg : a ≤ cap := by rw [rowsTo_len] at hgg; omega
                clear hgg
                have HLD := Lib.hid (show Level (rowsTo fs j) from (levelB_iff _).1 HLV.out.symm)
                obtain ⟨D, hD⟩ : ∃ D : Nat → List Nat, D = fun i => (dataOf a fs).getD i [] := ⟨_, rfl⟩
                have HDd := Lib.hid hD
                clear hD
                go_loopw [103] (fun q w3 => ∃ (i : Nat) (us : Nat → Value), i ≤ a ∧ q = .int .i64 i ∧ Tx wI a i us D w3) (fun q _ => a - (intOf q).toNat)
                case atStart => exact ⟨0, fun _ => undef, by omega, rfl, RowsF.made _ _ _ _ _ _, (Below.refl _ _).alloc (Nat.le_refl _) _, by simp⟩
                case round =>
                  rename World => w3
                  obtain ⟨i, us3, hia, rfl, htx⟩ := hrel
                  have HT := Lib.hid htx
                  clear htx
                  by_cases hia2 : i < a
                  · obtain ⟨ib, io, yi, he, hib, hic, hiy⟩ := HMI.out.cell (i := i) (by rw [HIL.out]; exact hia2)
                    subst he
                    obtain ⟨pa, pc, rfl, _⟩ := hiy.open
                    have HIY := Lib.hid hiy
                    have HICc := Lib.hid hic
                    clear hiy hic
                    have HG2 := Lib.hid (HB0.out 0 (by omega))
                    go_wp2_with fail
                    refine wp_region_order (Sx wI) (Tx wI a i us3 D) [(0, false), (1, false), (2, false), (3, false), (4, false), (5, false), (6, false), (7, false), (8, false), (9, true), (10, false), (11, false), (12, false), (13, false), (14, true)] (by kernel_rfl) (by kernel_rfl) rfl (by kernel_rfl) (Tx.stable _ _ _ _ _) (fun _ h => h.2) HT.out ?_
                    repeat (apply oRow_plain
                            · exact rfl
                            · exact rfl
                            · intro wg hg
                              have hc := (fun wg (hg : Sx wI wg) => (hg.1.cell (p := ⟨ib, io + i, none⟩) hib).trans HICc.out) wg hg
                              go_simp
                              first
                                | exact rfl
                                | exact ⟨Below.refl _ _, rfl⟩
                                | ((fail))
                            intro K hK
                            go_simp
                            refine hK _ ?_
                            clear hK K)
                    refine oRow_step (Vx wI a i us3 D (GF.comb ((invOf a (genMat a fs)).getD i []) (rowsTo fs a))) rfl rfl (Vx.stable _ _ _ _ _ _) (fun _ _ h => h.2.2.2) ?_ ?_
                    · intro wg hg
                      go_simp
                      refine (combine_fit ((invOf a (genMat a fs)).getD i []) (rowsTo fs a) _ _ _ (HIY.out.below hg.2.1 (Nat.le_refl _)) (HRW.out.below hg.2.1 (Nat.le_refl _)) ⟨by rw [invRow_len HU.out hia2]; omega, by rw [invRow_len HU.out hia2, rowsTo_len], level_take HLD.out (by omega)⟩ (by rw [rowsTo_getD _ _ _ (by omega)]; exact HG2.out)).mono ?_
                      rintro e w5 ⟨_, rfl, ⟨hc3, ⟨rb, rn, rcap, rc, rfl, _, hc4⟩⟩, hc5⟩
                      exact ⟨_, rfl, ⟨_, _, _, rfl⟩, Kept.fresh hc3 rfl hc4, hg.1.below hc5, Sx.stable wI _ _ hg.2 hc5⟩
                    rintro _ ⟨wv, ⟨rp, rn, rc, rfl⟩, _⟩ K hK
                    go_simp
                    refine hK _ ?_
                    clear hK K
                    repeat (apply oRow_plain
                            · exact rfl
                            · exact rfl
                            · intro wg hg
                              have hc := (fun wg (hg : Sx wI wg) => (hg.1.cell (p := ⟨ib, io + i, none⟩) hib).trans HICc.out) wg hg
                              go_simp
                              first
                                | exact rfl
                                | exact ⟨Below.refl _ _, rfl⟩
                                | ((fail))
                            intro K hK
                            go_simp
                            refine hK _ ?_
                            clear hK K)
                    refine oRow_step (fun u w => u = undef ∧ Tx wI a (i + 1) (fun q => if q = i then .slice rp rn rc else us3 q) D w) rfl rfl (fun u w w' h hb => ⟨h.1, Tx.stable _ _ _ _ _ _ _ h.2 hb⟩) (fun _ _ h => h.2.2) ?_ ?_
                    · intro wg hg
                      have hoc := hg.2.2.1.outer.cell hia2
                      have hof := hg.2.2.1.outer.frozen i
                      rw [if_neg (Nat.lt_irrefl i)] at hoc
                      go_simp
                      exact ⟨hg.2.2.1.set (by decide) (by rw [HDd.out]; show Kept _ _ _ _ ((dataOf a fs).getD i []); rw [dataOf_row fs hia2]; exact hg.2.1), hg.2.2.2.1.setCell (Nat.le_refl _) _, by simpa using hg.2.2.2.2⟩
                    rintro _ ⟨wv, rfl, _⟩ K hK
                    go_simp
                    refine hK _ ?_
                    clear hK K
                    refine oRow_nil ?_
                    rintro w6 ⟨_, ht6⟩
                    have HT6 := Lib.hid ht6
                    clear ht6
                    go_wp2_with fail
                    go_roundw
                    case rel => exact ⟨i + 1, _, by omega, by go_num, HT6.out⟩
                    case measure => simp [intOf]; omega
                  · obtain rfl : i = a := by omega
                    have hmD : Mat w3 (.slice (some ⟨wI.heap.size, 0, none⟩) i i) (dataOf i fs) := by
                      have h := HT.out.1.mat (by unfold maxLen; omega) (by omega)
                      have e : (List.range i).map D = dataOf i fs := by
                        rw [HDd.out]
                        refine List.ext_getElem (by simp [dataOf_len]) fun q h1 h2 => ?_
                        simp at h1
                        simp [dataOf_len, h1]
                      rw [e] at h
                      exact h
                    have HMD := Lib.hid hmD
                    have hg3 := HT.out.2.1.size
                    have HG2 := Lib.hid (HB0.out 0 (by omega))
                    clear hmD hia hia2
                    go_wp2_with (first | (go_at_call 32; refine (word_any i m (dataOf i fs) _ _ HMD.out h1 h6 h8 (dataOf_len _ _) (dataOf_level _ _ h1) (by rw [dataOf_rowlen fs (by omega)]; exact HG2.out)).mono ?_; rintro e w7 ⟨vo, vso, rfl, hro, hb7⟩; have HO := Lib.hid (show Mat w7 vo (wordOf i m fs) from hro.mat (by rw [wordTo_len]; omega)); have hB7 : Below w.heap.size w w7 := (((HB.out.trans (HBQ.out.mono hgw)).trans (HBI.out.mono (by omega))).trans (HT.out.2.1.mono (by omega))).trans (hb7.mono (by omega)); have HB7 := Lib.hid hB7; clear hro hb7 hB7))
                    obtain ⟨oa, ocap, rfl, _⟩ := HO.out.open
                    obtain ⟨N, hNN⟩ : ∃ N, N = i + m := ⟨_, rfl⟩
                    have hwl : (wordOf i m fs).length = N := by unfold wordOf; rw [wordTo_len, hNN]
                    have HWL := Lib.hid hwl
                    rw [hwl]
                    have HNN := Lib.hid hNN
                    clear hwl hNN
                    have hg7 := HB7.out.size
                    go_loopw [127] (fun q w8 => ∃ b : Nat, b ≤ j ∧ q = .int .i64 b ∧ Below w7.heap.size w7 w8 ∧ Fits i m fs b) (fun q _ => j - (intOf q).toNat)
                    case atStart => exact ⟨0, by omega, rfl, Below.refl _ _, fun q hq => by omega⟩
                    case round =>
                      rename World => w8
                      obtain ⟨b, hbj, rfl, hb8, hfi⟩ := hrel
                      have HB8 := Lib.hid hb8
                      have HFI := Lib.hid hfi
                      clear hb8 hfi
                      have hg8 := HB8.out.size
                      by_cases hbj2 : b < j
                      · obtain ⟨fb, fo, y, he, hfb, hc0, hc1, hby⟩ := HF.out.cell (i := b) (by have := HN.out; omega)
                        subst he
                        have hc0' := (HB8.out.cell (p := ⟨fb, fo + b * 2, none⟩) (by show fb < w7.heap.size; omega)).trans ((HB7.out.cell (p := ⟨fb, fo + b * 2, none⟩) hfb).trans hc0)
                        have hc1' := (HB8.out.cell (p := ⟨fb, fo + b * 2 + 1, none⟩) (by show fb < w7.heap.size; omega)).trans ((HB7.out.cell (p := ⟨fb, fo + b * 2 + 1, none⟩) hfb).trans hc1)
                        have hia := HI.out b (by omega)
                        obtain ⟨q, hq⟩ : ∃ q : Nat, q = (fragD fs b).1.toNat := ⟨_, rfl⟩
                        have hqe : (fragD fs b).1 = (q : Int) := by omega
                        rw [hqe] at hc0'
                        have hqlt : q < N := by have := HNN.out; omega
                        have HQ := Lib.hid hq
                        obtain ⟨ya, ycap, rfl, hyl⟩ := hby.open
                        obtain ⟨ob, oo, xo, he, hob, hxo, hbo⟩ := HO.out.cell (i := q) (by rw [HWL.out]; exact hqlt)
                        subst he
                        have hxo' := (HB8.out.cell (p := ⟨ob, oo + q, none⟩) hob).trans hxo
                        obtain ⟨l1, hl1⟩ : ∃ l, l = (fragD fs b).2 := ⟨_, rfl⟩
                        obtain ⟨l2, hl2⟩ : ∃ l, l = (wordOf i m fs).getD q [] := ⟨_, rfl⟩
                        rw [← hl1] at hc1' hby hyl
                        rw [← hl2] at hbo
                        obtain ⟨xa, xcap, rfl, hxl⟩ := hbo.open
                        obtain ⟨WF, hWF⟩ : ∃ W, W = w8.alloc (.cells #[.int .i64 q, .slice ya l1.length ycap] 36) := ⟨_, rfl⟩
                        have hbWF : Below w8.heap.size w8 WF := by rw [hWF]; exact (Below.refl _ _).alloc (Nat.le_refl _) _
                        have hy9 := ((hby.below HB7.out (Nat.le_refl _)).below HB8.out (Nat.le_refl _)).below hbWF.drew (Nat.le_refl _)
                        have ho9 := (hbo.below HB8.out (Nat.le_refl _)).below hbWF.drew (Nat.le_refl _)
                        have hcv1 := hy9.conv (P := Try.prog) (src := 31) (e := 5) (dst := 9) Try.underlying31 Try.underlying5 Try.underlying9
                        have hcv2 := ho9.conv (P := Try.prog) (src := 31) (e := 5) (dst := 9) Try.underlying31 Try.underlying5 Try.underlying9
                        have hss : strOf l2 = strOf l1 → l2 = l1 := fun h => strOf_inj hbo.2 hby.2 h
                        have HSS := Lib.hid hss
                        have HL1 := Lib.hid hl1
                        have HL2 := Lib.hid hl2
                        have hBW : Below w7.heap.size w7 WF := by rw [hWF]; exact HB8.out.alloc hg8 _
                        have HBW := Lib.hid hBW
                        have hwx := (hbWF.cell (p := ⟨ob, oo + q, none⟩) (by show ob < w8.heap.size; omega)).trans hxo'
                        have hwc0 : WF.cell? ⟨w8.heap.size, 0, none⟩ = some (.int .i64 q) := by rw [hWF, World.cell?_alloc_new]; rfl
                        have hwc1 : WF.cell? ⟨w8.heap.size, 1, none⟩ = some (.slice ya l1.length ycap) := by rw [hWF, World.cell?_alloc_new]; rfl
                        obtain ⟨n1, hn1⟩ : ∃ n, n = l1.length := ⟨_, rfl⟩
                        obtain ⟨n2, hn2⟩ : ∃ n, n = l2.length := ⟨_, rfl⟩
                        rw [← hn1] at hcv1 hc1' hwc1 hWF
                        rw [← hn2] at hcv2 hxo' hwx
                        have HWF := Lib.hid hWF
                        obtain ⟨S1, hS1⟩ : ∃ S, S = strOf l1 := ⟨_, rfl⟩
                        obtain ⟨S2, hS2⟩ : ∃ S, S = strOf l2 := ⟨_, rfl⟩
                        rw [← hS1] at hcv1
                        rw [← hS2] at hcv2
                        have HS1 := Lib.hid hS1
                        have HS2 := Lib.hid hS2
                        have hob8 : ob < w8.heap.size := by omega
                        clear hc0 hc1 hby hia hqe hq hxo hbo hy9 ho9 hbWF hWF hBW hss hl1 hl2 hn1 hn2 hS1 hS2 hyl hxl
                        by_cases hSe : S2 = S1
                        · subst hSe
                          go_wp2_with fail
                          rw [← HWF.out]
                          go_still (by kernel_rfl)
                          go_wp2_with fail
                          go_roundw
                          case rel => exact ⟨b + 1, by omega, by go_num, HBW.out.drew, fun p hp => by
                            by_cases e : p = b
                            · subst e; rw [← HQ.out, ← HL1.out, ← HL2.out]; exact HSS.out (by rw [← HS1.out, ← HS2.out])
                            · exact HFI.out p (by omega)⟩
                          case measure => simp [intOf]; omega
                        · have hsn : (S2 == S1) = false := Bool.eq_false_iff.2 fun h => hSe ((MapKept.bytes_beq _ _).1 h)
                          have hsn2 : (S2.toList == S1.toList) = false := by rw [← beq_toListBytes]; exact hsn
                          have HSE := Lib.hid hSe
                          clear hSe
                          go_wp2_with fail
                          rw [← HWF.out]
                          go_still (by kernel_rfl)
                          go_wp2_with fail
                          go_ret2
                          have hv := verdict_fits (k := i) (m := m) HN.out HI.out HDJ.out.symm (by omega) HLD.out (fun h => HSE.out (by
                            have := h b (by omega)
                            rw [← HQ.out, ← HL1.out, ← HL2.out] at this
                            rw [HS1.out, HS2.out, this]))
                          exact .inr ⟨by rw [hv]; decide, by rw [hv]; exact ⟨rfl, HB7.out.trans (HBW.out.drew.mono hg7)⟩⟩
                      · obtain rfl : b = j := by omega
                        go_wp2_with fail
                        go_ret2
                        have hv := verdict_ok (k := i) (m := m) HN.out HI.out HDJ.out.symm (by omega) HLD.out HFI.out
                        have hom := HO.out.below HB8.out (Nat.le_refl _)
                        rw [HWL.out] at hom
                        exact .inl ⟨hv, _, rfl, hom, HB7.out.trans (HB8.out.mono hg7)⟩
      · go_wp2_with fail
        go_ret2
        have hv := verdict_dup (k := k) (m := m) HN.out HI.out HDJ.out.symm
        exact .inr ⟨by rw [hv]; decide, by rw [hv]; exact ⟨rfl, HB.out⟩⟩
end Go.Proofs.Ytojfeldafbabeaa
