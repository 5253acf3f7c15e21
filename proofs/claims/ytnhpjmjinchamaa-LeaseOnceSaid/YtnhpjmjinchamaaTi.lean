/- The walks of Judge and Free. -/
import Derived.Test.YtnhpjmjinchamaaTh
import Derived.LoopTactic
import Derived.BigGuardPart
set_option linter.unusedVariables false
set_option linter.unusedSimpArgs false
set_option linter.unnecessarySimpa false
namespace Go.Proofs.Ytnhpjmjinchamaa
open Go Go.RowKit Go.MapKept Go.ChangeMaps

/-- r is the first extent of d below n without a lease, or -1 -/
def FreeIs (U : Pk → Option Ls) (d n r : Int) : Prop :=
  (r = -1 ∧ ∀ e : Int, 0 ≤ e → e < n → extB d e = true → (U (d, e)).isSome = true) ∨ (0 ≤ r ∧ r < n ∧ extB d r = true ∧ U (d, r) = none ∧ ∀ e : Int, 0 ≤ e → e < r → (U (d, e)).isSome = true)
theorem FreeIs.uniq {U : Pk → Option Ls} {d n r r' : Int} (h : FreeIs U d n r) (h' : FreeIs U d n r') : r = r' := by
  rcases h with ⟨rfl, h⟩ | ⟨a, b, c, e, f⟩ <;> rcases h' with ⟨rfl, h'⟩ | ⟨a', b', c', e', f'⟩
  · rfl
  · have := h r' a' b' c'; rw [e'] at this; cases this
  · have := h' r a b c; rw [e] at this; cases this
  · rcases Int.lt_trichotomy r r' with q | q | q
    · have := f' r a q; rw [e] at this; cases this
    · exact q
    · have := f r' a' q; rw [e'] at this; cases this
def FreePost (w : World) (U : Pk → Option Ls) (d n : Int) (e : Ending) (w' : World) : Prop := ∃ r, e = .returned (.int .i64 r) ∧ FreeIs U d n r ∧ Below w.heap.size w w'

theorem ext_mono {d e e' : Int} (h : extB d e = false) (h0 : 0 ≤ e) (h1 : e ≤ e') : extB d e' = false := by
  unfold extB at *
  simp at *
  intro a b c
  have := h a b h0
  omega

set_option maxHeartbeats 1000000 in
theorem free_any {w : World} {i : Ids} {T : Tb} (h : TbAt w i T) (d n : Int) : Calls Try.prog 24 #[i.ptr, .int .i64 d, .int .i64 n] w (FreePost w T.u d n) := by
  have HT := Lib.hid h
  clear h
  go_enter Try.func24, Try.ntmps24
  go_wp2_with fail
  go_loopw [7] (fun e wr => ∃ k : Nat, k ≤ 16 ∧ e = .int .i64 k ∧ Hid (∀ e : Int, 0 ≤ e → e < k → (T.u (d, e)).isSome = true) ∧ Below w.heap.size w wr) (fun e _ => 16 - (intOf e).toNat)
  case atStart => exact ⟨0, by omega, rfl, fun e h0 h1 => by omega, Below.refl _ _⟩
  case round =>
    rename World => wr
    obtain ⟨k, hk, rfl, HP, hb⟩ := hrel
    have HB := Lib.hid hb
    clear hb
    by_cases h1 : (k : Int) < n
    · cases h2 : extB d k with
      | false =>
        have H2 := Lib.hid h2
        clear h2
        go_wp2_with (go_at_call 42; refine (ext_as H2.out _).mono ?_; rintro e w1 ⟨rfl, rfl⟩)
        go_ret
        refine ⟨_, rfl, .inl ⟨rfl, fun e h0 h1 h3 => ?_⟩, HB.out⟩
        by_cases q : e < k
        · exact HP.out e h0 q
        · rw [ext_mono H2.out (by omega) (by omega)] at h3
          cases h3
      | true =>
        have hk2 : k < 16 := by unfold extB at h2; simp at h2; omega
        have H2 := Lib.hid h2
        clear h2
        obtain ⟨l, hl⟩ : ∃ l, (T.u (d, (k : Int))).getD noL = l := ⟨_, rfl⟩
        cases h3 : (T.u (d, (k : Int))).isSome with
        | false =>
          have H3 := Lib.hid h3
          have H4 := Lib.hid hl
          clear h3 hl
          go_wp2_with (first
            | (go_at_call 42; refine (ext_as H2.out _).mono ?_; rintro e w1 ⟨rfl, rfl⟩)
            | (go_at_call 25; refine (at_as (HT.out.below HB.out) d k H4.out H3.out).mono ?_; rintro e w1 ⟨rfl, hb1⟩; have HB1 := Lib.hid (HB.out.trans (hb1.mono HB.out.size)); clear hb1))
          go_ret
          exact ⟨_, rfl, .inr ⟨by omega, h1, H2.out, by have := H3.out; simpa using this, HP.out⟩, HB1.out.alloc HB1.out.size _⟩
        | true =>
          have H3 := Lib.hid h3
          have H4 := Lib.hid hl
          clear h3 hl
          go_wp2_with (first
            | (go_at_call 42; refine (ext_as H2.out _).mono ?_; rintro e w1 ⟨rfl, rfl⟩)
            | (go_at_call 25; refine (at_as (HT.out.below HB.out) d k H4.out H3.out).mono ?_; rintro e w1 ⟨rfl, hb1⟩; have HB1 := Lib.hid (HB.out.trans (hb1.mono HB.out.size)); clear hb1))
          go_roundw
          case rel =>
            refine ⟨k + 1, by omega, by go_num, fun e h0 h4 => ?_, HB1.out.alloc HB1.out.size _⟩
            by_cases q : e < k
            · exact HP.out e h0 q
            · obtain rfl : e = k := by omega
              exact H3.out
          case measure => simp [intOf]; omega
    · go_wp2_with fail
      go_ret
      refine ⟨_, rfl, .inl ⟨rfl, fun e h0 h2 h3 => HP.out e h0 (by omega)⟩, HB.out⟩

def judgeF (T : Tb) (v f d n : Int) : Int :=
  if (T.h (v, f)).isSome && ((T.h (v, f)).getD noL).drive == d && ((T.h (v, f)).getD noL).gen == n then 1
  else if (T.m (v, f)).isSome && ((T.m (v, f)).getD noL).drive == d && ((T.m (v, f)).getD noL).gen == n then 2
  else if decide (1 ≤ n) && decide (n ≤ T.g (v, f)) then 3 else 4

def three (a b c : Bool) : Prop := (a = true ∧ b = true ∧ c = true) ∨ a = false ∨ (a = true ∧ b = false) ∨ (a = true ∧ b = true ∧ c = false)
theorem three_of (a b c : Bool) : three a b c := by unfold three; cases a <;> cases b <;> cases c <;> simp


set_option maxRecDepth 20000 in
set_option maxHeartbeats 8000000 in
theorem judge_any {w : World} {i : Ids} {T : Tb} (h : TbAt w i T) (v f d n : Int) : Calls Try.prog 20 #[i.ptr, .int .i64 v, .int .i64 f, .int .i64 d, .int .i64 n] w fun e w' => e = .returned (.int .i64 (judgeF T v f d n)) ∧ Below w.heap.size w w' := by
  have HS := Lib.hid (St.start h)
  unfold judgeF
  obtain ⟨lh, hlh⟩ : ∃ l, (T.h (v, f)).getD noL = l := ⟨_, rfl⟩
  obtain ⟨lm, hlm⟩ : ∃ l, (T.m (v, f)).getD noL = l := ⟨_, rfl⟩
  obtain ⟨ch, hch⟩ : ∃ l, (T.h (v, f)).isSome = l := ⟨_, rfl⟩
  obtain ⟨cm, hcm⟩ : ∃ l, (T.m (v, f)).isSome = l := ⟨_, rfl⟩
  obtain ⟨G, hG⟩ : ∃ l, T.g (v, f) = l := ⟨_, rfl⟩
  rw [hlh, hlm, hch, hcm, hG]
  have H3 := Lib.hid hlh
  have H4 := Lib.hid hlm
  have H5 := Lib.hid hch
  have H6 := Lib.hid hcm
  have H7 := Lib.hid hG
  clear h hlh hlm hch hcm hG
  obtain ⟨q1, hq1⟩ : ∃ b, (lh.drive == d) = b := ⟨_, rfl⟩
  obtain ⟨q2, hq2⟩ : ∃ b, (lh.gen == n) = b := ⟨_, rfl⟩
  obtain ⟨q3, hq3⟩ : ∃ b, (lm.drive == d) = b := ⟨_, rfl⟩
  obtain ⟨q4, hq4⟩ : ∃ b, (lm.gen == n) = b := ⟨_, rfl⟩
  have t1 := three_of ch q1 q2
  have t2 := three_of cm q3 q4
  have t3 : (1 ≤ n ∧ n ≤ G) ∨ ¬ 1 ≤ n ∨ (1 ≤ n ∧ ¬ n ≤ G) := by omega
  have key : ∀ r : Int, ((ch && q1 && q2) = true → r = 1) → ((ch && q1 && q2) = false → (cm && q3 && q4) = true → r = 2) → ((ch && q1 && q2) = false → (cm && q3 && q4) = false → 1 ≤ n → n ≤ G → r = 3) →
      ((ch && q1 && q2) = false → (cm && q3 && q4) = false → ¬ (1 ≤ n ∧ n ≤ G) → r = 4) → (if (ch && lh.drive == d && lh.gen == n) = true then (1 : Int) else if (cm && lm.drive == d && lm.gen == n) = true then 2 else if (decide (1 ≤ n) && decide (n ≤ G)) = true then 3 else 4) = r := by
    intro r k1 k2 k3 k4
    rw [hq1, hq2, hq3, hq4]
    by_cases a : (ch && q1 && q2) = true
    · rw [if_pos a, k1 a]
    · have a' := Bool.eq_false_iff.2 a
      rw [if_neg a]
      by_cases b : (cm && q3 && q4) = true
      · rw [if_pos b, k2 a' b]
      · have b' := Bool.eq_false_iff.2 b
        rw [if_neg b]
        by_cases c : 1 ≤ n ∧ n ≤ G
        · rw [if_pos (by simpa using c), k3 a' b' c.1 c.2]
        · rw [if_neg (by simpa using c), k4 a' b' c]
  have KEY := Lib.hid key
  clear key
  generalize (if (ch && lh.drive == d && lh.gen == n) = true then (1 : Int) else if (cm && lm.drive == d && lm.gen == n) = true then 2 else if (decide (1 ≤ n) && decide (n ≤ G)) = true then 3 else 4) = R at *
  have HB0 : Below w.heap.size w w := Below.refl _ _
  rcases t1 with ⟨rfl, rfl, rfl⟩ | rfl | ⟨rfl, rfl⟩ | ⟨rfl, rfl, rfl⟩
  · clear hq3 hq4 t2 t3
    (go_enter Try.func20, Try.ntmps20
     go_wp2_with (first
       | (go_at_call 19; refine (home_as HS.out.tb v f H3.out H5.out).mono ?_; rintro e w1 ⟨rfl, hb1⟩; have HS1 := Lib.hid ((HS.out.call hb1).push _ (lc lh) 46 rfl); have HB1 := Lib.hid (hb1.alloc hb1.size (.cells (lc lh) 46)); clear hb1)
       | (go_at_call 40; refine (target_as HS1.out.tb v f H4.out H6.out).mono ?_; rintro e w2 ⟨rfl, hb2⟩; have HS2 := Lib.hid ((HS1.out.call hb2).push w2.heap.size (lc lm) 46 rfl); have hlk := look_g_run HS2.out.tb (v, f); rw [H7.out] at hlk; obtain ⟨b0, b1, b2, b3, b4, b5, -, -, -, -, -, -, bl⟩ := (HS1.out.call hb2).mm.lay6 0 rfl; obtain ⟨c0, c1, c2, c3, c4, c5, -, -, -, -, -, -, cl⟩ := (HS1.out.call hb2).tb.box.lay6; have HB2 := Lib.hid (HB1.out.trans (hb2.mono HB1.out.size)); clear hb2)
       | (go_at_call 36; refine (view_any _ _).mono ?_; rintro e w3 ⟨rfl, rfl⟩))
     go_ret
     refine ⟨?_, HB2.out.alloc HB2.out.size _⟩
     exact (congrArg (fun x => Ending.returned (Value.int .i64 x)) (KEY.out _ (by intros; first | rfl | (exfalso; first | omega | simp_all)) (by intros; first | rfl | (exfalso; first | omega | simp_all)) (by intros; first | rfl | (exfalso; first | omega | simp_all)) (by intros; first | rfl | (exfalso; first | omega | simp_all)))).symm)
  all_goals
    rcases t2 with ⟨rfl, rfl, rfl⟩ | rfl | ⟨rfl, rfl⟩ | ⟨rfl, rfl, rfl⟩
    · clear t3
      (go_enter Try.func20, Try.ntmps20
       go_wp2_with (first
         | (go_at_call 19; refine (home_as HS.out.tb v f H3.out H5.out).mono ?_; rintro e w1 ⟨rfl, hb1⟩; have HS1 := Lib.hid ((HS.out.call hb1).push _ (lc lh) 46 rfl); have HB1 := Lib.hid (hb1.alloc hb1.size (.cells (lc lh) 46)); clear hb1)
         | (go_at_call 40; refine (target_as HS1.out.tb v f H4.out H6.out).mono ?_; rintro e w2 ⟨rfl, hb2⟩; have HS2 := Lib.hid ((HS1.out.call hb2).push w2.heap.size (lc lm) 46 rfl); have hlk := look_g_run HS2.out.tb (v, f); rw [H7.out] at hlk; obtain ⟨b0, b1, b2, b3, b4, b5, -, -, -, -, -, -, bl⟩ := (HS1.out.call hb2).mm.lay6 0 rfl; obtain ⟨c0, c1, c2, c3, c4, c5, -, -, -, -, -, -, cl⟩ := (HS1.out.call hb2).tb.box.lay6; have HB2 := Lib.hid (HB1.out.trans (hb2.mono HB1.out.size)); clear hb2)
         | (go_at_call 36; refine (view_any _ _).mono ?_; rintro e w3 ⟨rfl, rfl⟩))
       go_ret
       refine ⟨?_, HB2.out.alloc HB2.out.size _⟩
       exact (congrArg (fun x => Ending.returned (Value.int .i64 x)) (KEY.out _ (by intros; first | rfl | (exfalso; first | omega | simp_all)) (by intros; first | rfl | (exfalso; first | omega | simp_all)) (by intros; first | rfl | (exfalso; first | omega | simp_all)) (by intros; first | rfl | (exfalso; first | omega | simp_all)))).symm)
    all_goals
      rcases t3 with ⟨r1, r2⟩ | r1 | ⟨r1, r2⟩
      · (go_enter Try.func20, Try.ntmps20
         go_wp2_with (first
           | (go_at_call 19; refine (home_as HS.out.tb v f H3.out H5.out).mono ?_; rintro e w1 ⟨rfl, hb1⟩; have HS1 := Lib.hid ((HS.out.call hb1).push _ (lc lh) 46 rfl); have HB1 := Lib.hid (hb1.alloc hb1.size (.cells (lc lh) 46)); clear hb1)
           | (go_at_call 40; refine (target_as HS1.out.tb v f H4.out H6.out).mono ?_; rintro e w2 ⟨rfl, hb2⟩; have HS2 := Lib.hid ((HS1.out.call hb2).push w2.heap.size (lc lm) 46 rfl); have hlk := look_g_run HS2.out.tb (v, f); rw [H7.out] at hlk; obtain ⟨b0, b1, b2, b3, b4, b5, -, -, -, -, -, -, bl⟩ := (HS1.out.call hb2).mm.lay6 0 rfl; obtain ⟨c0, c1, c2, c3, c4, c5, -, -, -, -, -, -, cl⟩ := (HS1.out.call hb2).tb.box.lay6; have HB2 := Lib.hid (HB1.out.trans (hb2.mono HB1.out.size)); clear hb2)
           | (go_at_call 36; refine (view_any _ _).mono ?_; rintro e w3 ⟨rfl, rfl⟩))
         go_ret
         refine ⟨?_, HB2.out.alloc HB2.out.size _⟩
         exact (congrArg (fun x => Ending.returned (Value.int .i64 x)) (KEY.out _ (by intros; first | rfl | (exfalso; first | omega | simp_all)) (by intros; first | rfl | (exfalso; first | omega | simp_all)) (by intros; first | rfl | (exfalso; first | omega | simp_all)) (by intros; first | rfl | (exfalso; first | omega | simp_all)))).symm)
      · have r1' : decide (1 ≤ n) = false := by simpa using r1
        (go_enter Try.func20, Try.ntmps20
         go_wp2_with (first
           | (go_at_call 19; refine (home_as HS.out.tb v f H3.out H5.out).mono ?_; rintro e w1 ⟨rfl, hb1⟩; have HS1 := Lib.hid ((HS.out.call hb1).push _ (lc lh) 46 rfl); have HB1 := Lib.hid (hb1.alloc hb1.size (.cells (lc lh) 46)); clear hb1)
           | (go_at_call 40; refine (target_as HS1.out.tb v f H4.out H6.out).mono ?_; rintro e w2 ⟨rfl, hb2⟩; have HS2 := Lib.hid ((HS1.out.call hb2).push w2.heap.size (lc lm) 46 rfl); have hlk := look_g_run HS2.out.tb (v, f); rw [H7.out] at hlk; obtain ⟨b0, b1, b2, b3, b4, b5, -, -, -, -, -, -, bl⟩ := (HS1.out.call hb2).mm.lay6 0 rfl; obtain ⟨c0, c1, c2, c3, c4, c5, -, -, -, -, -, -, cl⟩ := (HS1.out.call hb2).tb.box.lay6; have HB2 := Lib.hid (HB1.out.trans (hb2.mono HB1.out.size)); clear hb2)
           | (go_at_call 36; refine (view_any _ _).mono ?_; rintro e w3 ⟨rfl, rfl⟩))
         go_ret
         refine ⟨?_, HB2.out.alloc HB2.out.size _⟩
         exact (congrArg (fun x => Ending.returned (Value.int .i64 x)) (KEY.out _ (by intros; first | rfl | (exfalso; first | omega | simp_all)) (by intros; first | rfl | (exfalso; first | omega | simp_all)) (by intros; first | rfl | (exfalso; first | omega | simp_all)) (by intros; first | rfl | (exfalso; first | omega | simp_all)))).symm)
      · have r2' : decide (n ≤ G) = false := by simpa using r2
        (go_enter Try.func20, Try.ntmps20
         go_wp2_with (first
           | (go_at_call 19; refine (home_as HS.out.tb v f H3.out H5.out).mono ?_; rintro e w1 ⟨rfl, hb1⟩; have HS1 := Lib.hid ((HS.out.call hb1).push _ (lc lh) 46 rfl); have HB1 := Lib.hid (hb1.alloc hb1.size (.cells (lc lh) 46)); clear hb1)
           | (go_at_call 40; refine (target_as HS1.out.tb v f H4.out H6.out).mono ?_; rintro e w2 ⟨rfl, hb2⟩; have HS2 := Lib.hid ((HS1.out.call hb2).push w2.heap.size (lc lm) 46 rfl); have hlk := look_g_run HS2.out.tb (v, f); rw [H7.out] at hlk; obtain ⟨b0, b1, b2, b3, b4, b5, -, -, -, -, -, -, bl⟩ := (HS1.out.call hb2).mm.lay6 0 rfl; obtain ⟨c0, c1, c2, c3, c4, c5, -, -, -, -, -, -, cl⟩ := (HS1.out.call hb2).tb.box.lay6; have HB2 := Lib.hid (HB1.out.trans (hb2.mono HB1.out.size)); clear hb2)
           | (go_at_call 36; refine (view_any _ _).mono ?_; rintro e w3 ⟨rfl, rfl⟩))
         go_ret
         refine ⟨?_, HB2.out.alloc HB2.out.size _⟩
         exact (congrArg (fun x => Ending.returned (Value.int .i64 x)) (KEY.out _ (by intros; first | rfl | (exfalso; first | omega | simp_all)) (by intros; first | rfl | (exfalso; first | omega | simp_all)) (by intros; first | rfl | (exfalso; first | omega | simp_all)) (by intros; first | rfl | (exfalso; first | omega | simp_all)))).symm)
end Go.Proofs.Ytnhpjmjinchamaa
