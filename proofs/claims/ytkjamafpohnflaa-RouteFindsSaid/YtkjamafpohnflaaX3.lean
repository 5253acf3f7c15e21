/- The program's and the reference's answers are alike, whatever the list and the nodes. -/
import Derived.Test.YtkjamafpohnflaaX2
set_option linter.unusedVariables false
set_option linter.unusedSimpArgs false
set_option linter.unnecessarySimpa false
namespace Go.Proofs.Ytkjamafpohnflaa
open Go Go.RowKit Go.Mem Go.Deep

set_option maxHeartbeats 2000000 in
theorem runion_bad (v u : Value) (T ns : List Int) (t c : Int) (w : World) (h : IntsAt w v T) (h2 : IntsAt w u ns) (hc : (¬ Tree.Ok T ∧ c = 112) ∨ (Tree.Ok T ∧ ¬ (0 ≤ t ∧ t < T.length) ∧ c = 5)) : Calls Try.prog 26 #[v, .int .i64 t, u] w fun e w' => e = .returned (.tuple #[.slice none 0 0, .int .i64 c]) ∧ w = w' := by
  obtain ⟨a, cap, rfl, hlen⟩ := h.open
  obtain ⟨a2, cap2, rfl, hlen2⟩ := h2.open
  rcases hc with ⟨h1, rfl⟩ | ⟨h1, h3, rfl⟩
  · have K24 := Lib.hid (check24_bad h h1)
    clear h h2 h1
    generalize T.length = n at *
    generalize ns.length = m at *
    go_enter Try.func26, Try.ntmps26
    go_wp2_with (first
      | (go_at_call 24; (with_reducible refine K24.out.mono ?_); rintro e w1 ⟨rfl, rfl⟩))
    go_ret2
    exact ⟨rfl, rfl⟩
  · have K24 := Lib.hid (check24_as h h1)
    have K34 := Lib.hid (node_at (x := t) (c := false) h (by rw [Bool.and_eq_false_iff]; simp only [decide_eq_false_iff_not]; omega))
    clear h h2 h1 h3
    generalize T.length = n at *
    generalize ns.length = m at *
    go_enter Try.func26, Try.ntmps26
    go_wp2_with (first
      | (go_at_call 24; (with_reducible refine K24.out.mono ?_); rintro e w1 ⟨rfl, rfl⟩)
      | (go_at_call 34; (with_reducible refine K34.out.mono ?_); rintro e w1 ⟨rfl, rfl⟩))
    go_ret2
    exact ⟨rfl, rfl⟩

/-- a list and a code come back -/
def ResU (w : World) (L : List Int) (n : Nat) (c : Int) (e : Ending) (w' : World) : Prop := ∃ a cap, e = .returned (.tuple #[.slice a n cap, .int .i64 c]) ∧ IntsAt w' (.slice a n cap) L ∧ Below w.heap.size w w'
theorem ResU.nil (w w' : World) (c : Int) (h : Below w.heap.size w w') : ResU w [] 0 c (.returned (.tuple #[.slice none 0 0, .int .i64 c])) w' := ⟨none, 0, rfl, IntsAt.nil w', h⟩

theorem meet_both (T : List Int) (x y : Int) : ∃ m c : Int, ∀ v, (∀ w, IntsAt w v T → Calls Try.prog 15 #[v, .int .i64 x, .int .i64 y] w fun e w' => e = .returned (.tuple #[.int .i64 m, .int .i64 c]) ∧ Below w.heap.size w w') ∧
    (∀ w, IntsAt w v T → Calls Try.prog 21 #[v, .int .i64 x, .int .i64 y] w fun e w' => e = .returned (.tuple #[.int .i64 m, .int .i64 c]) ∧ Below w.heap.size w w') := by
  have bad : ∀ c : Int, checkF T [x, y] = c → c ≠ 0 → ∀ v, (∀ w, IntsAt w v T → Calls Try.prog 15 #[v, .int .i64 x, .int .i64 y] w fun e w' => e = .returned (.tuple #[.int .i64 0, .int .i64 c]) ∧ Below w.heap.size w w') ∧
    (∀ w, IntsAt w v T → Calls Try.prog 21 #[v, .int .i64 x, .int .i64 y] w fun e w' => e = .returned (.tuple #[.int .i64 0, .int .i64 c]) ∧ Below w.heap.size w w') := fun c h1 h2 v =>
    ⟨fun w h => meet_bad v T x y c w h h1 h2, fun w h => (rmeet_bad v T x y c w h h1 h2).mono fun e w' ⟨a, b⟩ => ⟨a, b ▸ Below.refl _ _⟩⟩
  rcases pair_cases T x y with ⟨_, h⟩ | ⟨_, _, h⟩ | ⟨_, _, _, h⟩ | ⟨ho, _, a, b, rfl, rfl, ha, hb⟩
  · exact ⟨0, 112, bad 112 h (by decide)⟩
  · exact ⟨0, 5, bad 5 h (by decide)⟩
  · exact ⟨0, 5, bad 5 h (by decide)⟩
  · obtain ⟨m, hm⟩ := meet_ex ho ha hb
    exact ⟨m, 0, fun v => ⟨fun w h => meet_ok v T a b m w h ho ha hb hm, fun w h => (rmeet_ok v T a b m w h ho ha hb hm).mono fun e w' ⟨a, b⟩ => ⟨a, b ▸ Below.refl _ _⟩⟩⟩

theorem path_both (T : List Int) (x y : Int) : ∃ (L : List Int) (n : Nat) (c : Int), ∀ v, (∀ w, IntsAt w v T → Calls Try.prog 11 #[v, .int .i64 x, .int .i64 y] w (ResU w L n c)) ∧ (∀ w, IntsAt w v T → Calls Try.prog 22 #[v, .int .i64 x, .int .i64 y] w (ResU w L n c)) := by
  have bad : ∀ c : Int, checkF T [x, y] = c → c ≠ 0 → ∀ v, (∀ w, IntsAt w v T → Calls Try.prog 11 #[v, .int .i64 x, .int .i64 y] w (ResU w [] 0 c)) ∧ (∀ w, IntsAt w v T → Calls Try.prog 22 #[v, .int .i64 x, .int .i64 y] w (ResU w [] 0 c)) := fun c h1 h2 v =>
    ⟨fun w h => (Path_bad v T x y c w h h1 h2).mono fun e w' ⟨a, b⟩ => a ▸ ResU.nil w w' c b, fun w h => (rpath_bad v T x y c w h h1 h2).mono fun e w' ⟨a, b⟩ => a ▸ ResU.nil w w' c (b ▸ Below.refl _ _)⟩
  rcases pair_cases T x y with ⟨_, h⟩ | ⟨_, _, h⟩ | ⟨_, _, _, h⟩ | ⟨ho, _, a, b, rfl, rfl, ha, hb⟩
  · exact ⟨[], 0, 112, bad 112 h (by decide)⟩
  · exact ⟨[], 0, 5, bad 5 h (by decide)⟩
  · exact ⟨[], 0, 5, bad 5 h (by decide)⟩
  · refine ⟨pathI T a b, (pathI T a b).length, 0, fun v => ⟨fun w h => Path_ok v T a b w h ho ha hb, fun w h => (rpath_ok v T _ a b _ w h ho ha hb rfl rfl).mono fun e w' ⟨p, cap, he, hown⟩ => ⟨p, cap, he, hown.at ?_, hown.below⟩⟩⟩
    have h1 := len_pathTo T a b T.length
    have h2 : (pathI T a b).length = (pathTo T a b T.length).length := rfl
    have := ho.2.1
    omega

theorem union_both (T ns : List Int) (t : Int) (hm : ns.length ≤ 1000) : ∃ (L : List Int) (n : Nat) (c : Int), ∀ v u, (∀ w, IntsAt w v T → IntsAt w u ns → Calls Try.prog 25 #[v, .int .i64 t, u] w (ResU w L n c)) ∧ (∀ w, IntsAt w v T → IntsAt w u ns → Calls Try.prog 26 #[v, .int .i64 t, u] w (ResU w L n c)) := by
  by_cases ho : Tree.Ok T
  · have hb := (Tree.okB_iff T).2 ho
    by_cases ht : 0 ≤ t ∧ t < T.length
    · obtain ⟨t, rfl⟩ : ∃ a : Nat, t = a := ⟨t.toNat, by omega⟩
      rcases first_bad (fun i => 0 ≤ ns.getD i 0 ∧ ns.getD i 0 < T.length) ns.length with hall | ⟨p0, h1, h2, h3⟩
      · refine ⟨unionL T t ns, (unionL T t ns).length, 0, fun v u => ⟨fun w h h2 => ?_, fun w h h2 => ?_⟩⟩
        · exact (union_ok v u T ns t T.length _ w h h2 ho rfl (by omega) (fun p hp => by
            obtain ⟨i, hi, e⟩ := List.getElem_of_mem hp
            have := hall i hi
            rw [List.getD_eq_getElem?_getD, List.getElem?_eq_getElem hi] at this
            rw [← e]; exact this) hm rfl).mono fun e w' h => h
        · exact runion_any v u T ns t T.length ns.length _ w _ h h2 ho rfl (by omega) hall hm rfl (.inl ⟨rfl, fun e w' h => h⟩)
      · have hc : checkF T ((t : Int) :: ns) = 5 := checkF_out hb (x := ns.getD p0 0) (List.mem_cons_of_mem _ (getD_mem h1)) h3
        exact ⟨[], 0, 5, fun v u => ⟨fun w h h2 => (union_bad v u T ns t 5 w h h2 hm hc (by decide)).mono fun e w' ⟨a, b⟩ => a ▸ ResU.nil w w' 5 b, fun w h h4 => runion_any v u T ns t T.length p0 _ w _ h h4 ho rfl (by omega) h2 hm rfl (.inr ⟨h1, h3, fun w' hb => ResU.nil w w' 5 hb⟩)⟩⟩
    · have hc : checkF T (t :: ns) = 5 := checkF_out hb (x := t) (by simp) ht
      exact ⟨[], 0, 5, fun v u => ⟨fun w h h2 => (union_bad v u T ns t 5 w h h2 hm hc (by decide)).mono fun e w' ⟨a, b⟩ => a ▸ ResU.nil w w' 5 b, fun w h h2 => (runion_bad v u T ns t 5 w h h2 (.inr ⟨ho, ht, rfl⟩)).mono fun e w' ⟨a, b⟩ => a ▸ ResU.nil w w' 5 (b ▸ Below.refl _ _)⟩⟩
  · have hc : checkF T (t :: ns) = 112 := checkF_bad _ (by rw [← Bool.not_eq_true, Tree.okB_iff]; exact ho)
    exact ⟨[], 0, 112, fun v u => ⟨fun w h h2 => (union_bad v u T ns t 112 w h h2 hm hc (by decide)).mono fun e w' ⟨a, b⟩ => a ▸ ResU.nil w w' 112 b, fun w h h2 => (runion_bad v u T ns t 112 w h h2 (.inl ⟨ho, rfl⟩)).mono fun e w' ⟨a, b⟩ => a ▸ ResU.nil w w' 112 (b ▸ Below.refl _ _)⟩⟩

theorem loads_both (T : List Int) (ps : List (Int × Int)) (hm : ps.length ≤ 1000) : ∃ (L : List Int) (n : Nat) (c : Int), ∀ v u, (∀ w, IntsAt w v T → PairsAt w u ps → Calls Try.prog 27 #[v, u] w (ResU w L n c)) ∧ (∀ w, IntsAt w v T → PairsAt w u ps → Calls Try.prog 28 #[v, u] w (ResU w L n c)) := by
  by_cases ho : Tree.Ok T
  · have hb := (Tree.okB_iff T).2 ho
    have hok : ∀ p : Int × Int, OkP T.length p → checkF T [p.1, p.2] = 0 := fun p hp => checkF_ok hb (by intro z hz; simp at hz; rcases hz with rfl | rfl; exact ⟨hp.1, hp.2.1⟩; exact ⟨hp.2.2.1, hp.2.2.2⟩)
    rcases first_bad (fun i => OkP T.length (ps.getD i (0, 0))) ps.length with hall | ⟨p0, h1, h2, h3⟩
    · refine ⟨loadsL T ps, T.length, 0, fun v u => ⟨fun w h h2 => ?_, fun w h h2 => ?_⟩⟩
      · refine (loads_ok v u T ps T.length w h h2 ho rfl (fun p hp => ?_) hm).mono fun e w' h => h
        obtain ⟨i, hi, e⟩ := List.getElem_of_mem hp
        have := hall i hi
        rw [List.getD_eq_getElem?_getD, List.getElem?_eq_getElem hi] at this
        rw [← e]; exact this
      · exact rloads_any v u T ps T.length ps.length w _ h h2 ho rfl hall hm (.inl ⟨rfl, fun e w' h => h⟩)
    · have hc : checkF T [(ps.getD p0 (0, 0)).1, (ps.getD p0 (0, 0)).2] = 5 := by
        by_cases q1 : 0 ≤ (ps.getD p0 (0, 0)).1 ∧ (ps.getD p0 (0, 0)).1 < T.length
        · exact checkF_out hb (x := (ps.getD p0 (0, 0)).2) (by simp) fun q2 => h3 ⟨q1.1, q1.2, q2.1, q2.2⟩
        · exact checkF_out hb (x := (ps.getD p0 (0, 0)).1) (by simp) q1
      exact ⟨[], 0, 5, fun v u => ⟨fun w h h4 => (loads_bad v u T ps 5 p0 w h h4 hm (by omega) (fun i hi => hok _ (h2 i hi)) (by decide) (.inr ⟨h1, hc⟩)).mono fun e w' ⟨a, b⟩ => a ▸ ResU.nil w w' 5 b, fun w h h4 => rloads_any v u T ps T.length p0 w _ h h4 ho rfl h2 hm (.inr ⟨h1, h3, fun w' hb => ResU.nil w w' 5 hb⟩)⟩⟩
  · have hnb : Tree.okB T = false := by rw [← Bool.not_eq_true, Tree.okB_iff]; exact ho
    refine ⟨[], 0, 112, fun v u => ⟨fun w h h4 => ?_, fun w h h2 => (rloads_tree v u T ps w h h2 ho).mono fun e w' ⟨a, b⟩ => a ▸ ResU.nil w w' 112 (b ▸ Below.refl _ _)⟩⟩
    refine (loads_bad v u T ps 112 0 w h h4 hm (by omega) (fun i hi => by omega) (by decide) ?_).mono fun e w' ⟨a, b⟩ => a ▸ ResU.nil w w' 112 b
    by_cases h0 : ps.length = 0
    · exact .inl ⟨h0.symm, code_bad hnb⟩
    · exact .inr ⟨by omega, checkF_bad _ hnb⟩
end Go.Proofs.Ytkjamafpohnflaa
