/- Grant, end, Revoke, Commit, Free and Judge at the nil pointer. -/
import Derived.Test.YtnhpjmjinchamaaNb
set_option linter.unusedVariables false
set_option linter.unusedSimpArgs false
set_option linter.unnecessarySimpa false
namespace Go.Proofs.Ytnhpjmjinchamaa
open Go Go.RowKit Go.MapKept Go.ChangeMaps

set_option maxRecDepth 20000 in
theorem grant_nil (v f d x : Int) {n : Int} (hn : plN v f d x = n) (w : World) : Calls Try.prog 21 #[nilT, .int .i64 v, .int .i64 f, .int .i64 d, .int .i64 x] w fun e w' => e = .returned (.tuple #[.int .i64 0, .int .i64 n]) ∧ Below w.heap.size w w' := by
  rcases plN_cases v f d x hn with ⟨h1, rfl⟩ | ⟨h1, h2, rfl⟩ | ⟨h1, h2, rfl⟩
  · clear hn
    have H1 := Lib.hid h1
    clear h1
    go_enter Try.func21, Try.ntmps21
    go_wp2_with (go_at_call 41; (with_reducible refine (frag_as H1.out _).mono ?_); rintro e w1 ⟨rfl, rfl⟩)
    go_ret2
    exact ⟨rfl, Below.refl _ _⟩
  · clear hn
    have H1 := Lib.hid h1
    have H2 := Lib.hid h2
    clear h1 h2
    go_enter Try.func21, Try.ntmps21
    go_wp2_with (first
      | (go_at_call 41; (with_reducible refine (frag_as H1.out _).mono ?_); rintro e w1 ⟨rfl, rfl⟩)
      | (go_at_call 42; (with_reducible refine (ext_as H2.out _).mono ?_); rintro e w1 ⟨rfl, rfl⟩))
    go_ret2
    exact ⟨rfl, Below.refl _ _⟩
  · clear hn
    have H1 := Lib.hid h1
    have H2 := Lib.hid h2
    clear h1 h2
    go_enter Try.func21, Try.ntmps21
    go_wp2_with (first
      | (go_at_call 41; (with_reducible refine (frag_as H1.out _).mono ?_); rintro e w1 ⟨rfl, rfl⟩)
      | (go_at_call 42; (with_reducible refine (ext_as H2.out _).mono ?_); rintro e w1 ⟨rfl, rfl⟩)
      | (go_at_call 19; (with_reducible refine (home_nil _ _ _).mono ?_); rintro e w1 ⟨rfl, hb⟩; have HB := Lib.hid (hb.alloc hb.size (.cells (lc noL) 46)); clear hb)
      | (go_at_call 40; (with_reducible refine (target_nil _ _ _).mono ?_); rintro e w2 ⟨rfl, hb⟩; have HB1 := Lib.hid ((HB.out.trans (hb.mono HB.out.size)).alloc (HB.out.trans (hb.mono HB.out.size)).size (.cells (lc noL) 46)); clear hb)
      | (go_at_call 25; (with_reducible refine (at_nil _ _ _).mono ?_); rintro e w3 ⟨rfl, hb⟩; have HB2 := Lib.hid (HB1.out.trans (hb.mono HB1.out.size)); clear hb))
    go_ret2
    exact ⟨rfl, HB2.out.alloc HB2.out.size _⟩

/-- what Commit and Revoke of nil answer -/
def enN (v f : Int) : Int := if fragB v f then 110 else 5
theorem enN_cases (v f : Int) {n : Int} (hn : enN v f = n) : (fragB v f = false ∧ n = 5) ∨ (fragB v f = true ∧ n = 110) := by
  unfold enN at hn
  cases h1 : fragB v f <;> simp [h1] at hn <;> simp [hn]
theorem enN_ne (v f : Int) {n : Int} (hn : enN v f = n) : n ≠ 0 := by
  rcases enN_cases v f hn with ⟨_, rfl⟩ | ⟨_, rfl⟩ <;> decide
set_option maxHeartbeats 1000000 in
set_option maxRecDepth 20000 in
theorem end_nil (v f : Int) {n : Int} (hn : enN v f = n) (w : World) : Calls Try.prog 39 #[nilT, .int .i64 v, .int .i64 f] w fun e w' => e = .returned (.tuple #[lv noL, .int .i64 n]) ∧ Below w.heap.size w w' := by
  have HS := Lib.hid ((Mm.start (S := []) w (by simp)).push _ (lc noL) 46 rfl)
  rcases enN_cases v f hn with ⟨h1, rfl⟩ | ⟨h1, rfl⟩
  · have H1 := Lib.hid h1
    clear h1 hn
    obtain ⟨c0, c1, c2, c3, c4, c5, f0, f1, f2, f3, f4, f5, cl⟩ := HS.out.lay6 0 rfl
    go_enter Try.func39, Try.ntmps39
    go_wp2_with (first
      | (go_at_call 41; refine (frag_as H1.out _).mono ?_; rintro e w1 ⟨rfl, rfl⟩))
    exact bodyPost_ret (v := .tuple #[lv noL, .int .i64 5]) (by simp [results, Try.results39, go_sem]) rfl ⟨rfl, HS.out.only.below (by simp) (Nat.le_refl _)⟩
  · have H1 := Lib.hid h1
    clear h1 hn
    go_enter Try.func39, Try.ntmps39
    go_wp2_with (first
      | (go_at_call 41; refine (frag_as H1.out _).mono ?_; rintro e w1 ⟨rfl, rfl⟩)
      | (go_at_call 40; (with_reducible refine (target_nil _ _ _).mono ?_); rintro e w2 ⟨rfl, hb2⟩; have HS1 := Lib.hid (HS.out.call hb2); obtain ⟨c0, c1, c2, c3, c4, c5, f0, f1, f2, f3, f4, f5, cl⟩ := HS1.out.lay6 0 rfl; clear hb2))
    clear c0 c1 c2 c3 c4 c5 f0 f1 f2 f3 f4 f5 cl
    have HS2 := (HS1.out.put6 0 rfl (.int .i64 0) (.int .i64 0) (.int .i64 0) (.int .i64 0) (.int .i64 0) (.bool false)).push w2.heap.size (lc noL) 46 (by simp)
    refine bodyPost_ret (v := .tuple #[lv noL, .int .i64 110]) ?_ rfl ⟨rfl, HS2.only.below (by simp) (Nat.le_refl _)⟩
    obtain ⟨c0, c1, c2, c3, c4, c5, -⟩ := HS2.lay6 1 rfl
    simp [results, Try.results39, go_sem, c0, c1, c2, c3, c4, c5]

theorem revoke_nil (v f : Int) {n : Int} (hn : enN v f = n) (w : World) : Calls Try.prog 22 #[nilT, .int .i64 v, .int .i64 f] w fun e w' => e = .returned (.tuple #[lv noL, .int .i64 n]) ∧ Below w.heap.size w w' := by
  have HE := Lib.hid hn
  have HS0 := Lib.hid ((Mm.start (S := []) w (by simp)).push w.heap.size (lc noL) 46 rfl)
  clear hn
  go_enter Try.func22, Try.ntmps22
  go_wp2_with (go_at_call 39; refine (end_nil v f HE.out _).mono ?_; rintro e w1 ⟨rfl, ho⟩; have HS1 := Lib.hid (HS0.out.call ho); clear ho; obtain ⟨d0, d1, d2, d3, d4, d5, e0, e1, e2, e3, e4, e5, -⟩ := HS1.out.lay6 0 rfl)
  have HS5 := HS1.out.put6 0 rfl (.int .i64 0) (.int .i64 0) (.int .i64 0) (.int .i64 0) (.int .i64 0) (.bool false)
  clear d0 d1 d2 d3 d4 d5 e0 e1 e2 e3 e4 e5
  refine bodyPost_ret (v := .tuple #[lv noL, .int .i64 n]) ?_ rfl ⟨rfl, HS5.only.below (by simp) (Nat.le_refl _)⟩
  obtain ⟨c0, c1, c2, c3, c4, c5, -⟩ := HS5.lay6 0 rfl
  simp [results, Try.results22, go_sem, c0, c1, c2, c3, c4, c5]

theorem commit_nil (v f : Int) {n : Int} (hn : enN v f = n) (w : World) : Calls Try.prog 18 #[nilT, .int .i64 v, .int .i64 f] w fun e w' => e = .returned (.tuple #[lv noL, .int .i64 n]) ∧ Below w.heap.size w w' := by
  have HE := Lib.hid hn
  have HS0 := Lib.hid ((Mm.start (S := []) w (by simp)).push w.heap.size (lc noL) 46 rfl)
  have hn1 : (n != 0) = true := by simpa using enN_ne v f hn
  clear hn
  go_enter Try.func18, Try.ntmps18
  go_wp2_with (go_at_call 39; refine (end_nil v f HE.out _).mono ?_; rintro e w1 ⟨rfl, ho⟩; have HS1 := Lib.hid (HS0.out.call ho); clear ho; obtain ⟨d0, d1, d2, d3, d4, d5, e0, e1, e2, e3, e4, e5, el⟩ := HS1.out.lay6 0 rfl)
  have HS5 := (HS1.out.put6 0 rfl (.int .i64 0) (.int .i64 0) (.int .i64 0) (.int .i64 0) (.int .i64 0) (.bool false)).push w1.heap.size (lc noL) 46 (by simp)
  clear d0 d1 d2 d3 d4 d5 e0 e1 e2 e3 e4 e5 el
  refine bodyPost_ret (v := .tuple #[lv noL, .int .i64 n]) ?_ rfl ⟨rfl, HS5.only.below (by simp) (Nat.le_refl _)⟩
  obtain ⟨c0, c1, c2, c3, c4, c5, -⟩ := HS5.lay6 1 rfl
  simp [results, Try.results18, go_sem, c0, c1, c2, c3, c4, c5]

/-- what Free of nil answers -/
def frN (d n : Int) : Int := if 0 < n ∧ extB d 0 = true then 0 else -1
theorem free_nil (d n : Int) {r : Int} (hr : frN d n = r) (w : World) : Calls Try.prog 24 #[nilT, .int .i64 d, .int .i64 n] w fun e w' => e = .returned (.int .i64 r) ∧ Below w.heap.size w w' := by
  have hc : (¬ 0 < n ∧ r = -1) ∨ (0 < n ∧ extB d 0 = false ∧ r = -1) ∨ (0 < n ∧ extB d 0 = true ∧ r = 0) := by
    unfold frN at hr
    by_cases a : 0 < n <;> cases b : extB d 0 <;> simp [a, b] at hr <;> simp [a, ← hr]
  clear hr
  rcases hc with ⟨h1, rfl⟩ | ⟨h1, h2, rfl⟩ | ⟨h1, h2, rfl⟩
  · go_enter Try.func24, Try.ntmps24
    go_wp2_with fail
    go_loopw [7] (fun e wr => e = .int .i64 0 ∧ Below w.heap.size w wr) (fun _ _ => 0)
    case atStart => exact ⟨rfl, Below.refl _ _⟩
    case round =>
      rename World => wr
      obtain ⟨rfl, hb⟩ := hrel
      have HB := Lib.hid hb
      clear hb
      go_wp2_with fail
      go_ret
      exact ⟨rfl, HB.out⟩
  · have H2 := Lib.hid h2
    clear h2
    go_enter Try.func24, Try.ntmps24
    go_wp2_with fail
    go_loopw [7] (fun e wr => e = .int .i64 0 ∧ Below w.heap.size w wr) (fun _ _ => 0)
    case atStart => exact ⟨rfl, Below.refl _ _⟩
    case round =>
      rename World => wr
      obtain ⟨rfl, hb⟩ := hrel
      have HB := Lib.hid hb
      clear hb
      go_wp2_with (go_at_call 42; (with_reducible refine (ext_as H2.out _).mono ?_); rintro e w1 ⟨rfl, rfl⟩)
      go_ret
      exact ⟨rfl, HB.out⟩
  · have H2 := Lib.hid h2
    clear h2
    go_enter Try.func24, Try.ntmps24
    go_wp2_with fail
    go_loopw [7] (fun e wr => e = .int .i64 0 ∧ Below w.heap.size w wr) (fun _ _ => 0)
    case atStart => exact ⟨rfl, Below.refl _ _⟩
    case round =>
      rename World => wr
      obtain ⟨rfl, hb⟩ := hrel
      have HB := Lib.hid hb
      clear hb
      go_wp2_with (first
        | (go_at_call 42; (with_reducible refine (ext_as H2.out _).mono ?_); rintro e w1 ⟨rfl, rfl⟩)
        | (go_at_call 25; (with_reducible refine (at_nil _ _ _).mono ?_); rintro e w3 ⟨rfl, hb⟩; have HB2 := Lib.hid (HB.out.trans (hb.mono HB.out.size)); clear hb))
      go_ret
      exact ⟨rfl, HB2.out.alloc HB2.out.size _⟩

set_option maxRecDepth 20000 in
theorem judge_nil (v f d n : Int) (w : World) : Calls Try.prog 20 #[nilT, .int .i64 v, .int .i64 f, .int .i64 d, .int .i64 n] w fun e w' => e = .returned (.int .i64 4) ∧ Below w.heap.size w w' := by
  have hlk : ∀ (r : Option Nat), r = none → ∀ w, (Instr.lookup 64 (.map r) (.agg #[.int .i64 v, .int .i64 f]) false).run Try.prog w = .ok (.int .i64 0) w := fun r hr w => by
    subst hr
    have := lookup_nil (P := Try.prog) pair70 map64 (zero3 w) (v, f) false
    simpa using this
  have HLK := Lib.hid hlk
  clear hlk
  by_cases h1 : 1 ≤ n
  · have h2 : ¬ n ≤ 0 := by omega
    go_enter Try.func20, Try.ntmps20
    go_wp2_with (first
      | (go_at_call 19; (with_reducible refine (home_nil _ _ _).mono ?_); rintro e w1 ⟨rfl, hb⟩; have HB := Lib.hid (hb.alloc hb.size (.cells (lc noL) 46)); clear hb)
      | (go_at_call 40; (with_reducible refine (target_nil _ _ _).mono ?_); rintro e w2 ⟨rfl, hb⟩; have HB1 := Lib.hid ((HB.out.trans (hb.mono HB.out.size)).alloc (HB.out.trans (hb.mono HB.out.size)).size (.cells (lc noL) 46)); clear hb)
      | (go_at_call 36; (with_reducible refine (view_nil _).mono ?_); rintro e w1 ⟨b, t, r, rfl, ⟨c0, c1, c2, c3, c4, c5⟩, hb, hr, rfl⟩; have HB2 := Lib.hid (HB1.out.alloc HB1.out.size (.cells noC t)); have hl := HLK.out r hr; clear hb hr))
    exact bodyPost_ret (v := .int .i64 4) (by simp [results, Try.results20, go_sem]) rfl ⟨rfl, HB2.out⟩
  · have g : decide (1 ≤ n) = false := by simp; omega
    clear h1
    go_enter Try.func20, Try.ntmps20
    go_wp2_with (first
      | (go_at_call 19; (with_reducible refine (home_nil _ _ _).mono ?_); rintro e w1 ⟨rfl, hb⟩; have HB := Lib.hid (hb.alloc hb.size (.cells (lc noL) 46)); clear hb)
      | (go_at_call 40; (with_reducible refine (target_nil _ _ _).mono ?_); rintro e w2 ⟨rfl, hb⟩; have HB1 := Lib.hid ((HB.out.trans (hb.mono HB.out.size)).alloc (HB.out.trans (hb.mono HB.out.size)).size (.cells (lc noL) 46)); clear hb))
    exact bodyPost_ret (v := .int .i64 4) (by simp [results, Try.results20, go_sem]) rfl ⟨rfl, HB1.out⟩
end Go.Proofs.Ytnhpjmjinchamaa
