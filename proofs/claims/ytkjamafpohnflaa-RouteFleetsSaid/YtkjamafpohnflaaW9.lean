/- The walks of the reference's Meet, Path, Loads, Union. -/
import Derived.Test.YtkjamafpohnflaaL4
set_option linter.unusedVariables false
set_option linter.unusedSimpArgs false
set_option linter.unnecessarySimpa false
namespace Go.Proofs.Ytkjamafpohnflaa
open Go Go.RowKit Go.Mem Go.Deep

theorem check24_as {v : Value} {T : List Int} {w : World} (h : IntsAt w v T) (ho : Tree.Ok T) : Calls Try.prog 24 #[v] w fun e w' => e = .returned (.int .i64 0) ∧ w = w' := code_ok ((Tree.okB_iff T).2 ho) ▸ check24_any v T w h
theorem check24_bad {v : Value} {T : List Int} {w : World} (h : IntsAt w v T) (ho : ¬ Tree.Ok T) : Calls Try.prog 24 #[v] w fun e w' => e = .returned (.int .i64 112) ∧ w = w' :=
  code_bad (by rw [← Bool.not_eq_true, Tree.okB_iff]; exact ho) ▸ check24_any v T w h
theorem node_at {v : Value} {T : List Int} {x : Int} {c : Bool} {w : World} (h : IntsAt w v T) (hc : (decide (0 ≤ x) && decide (x < T.length)) = c) : Calls Try.prog 34 #[v, .int .i64 x] w fun e w' => e = .returned (.bool c) ∧ w = w' := hc ▸ node_any v T x w h
theorem below_as {v : Value} {T : List Int} {x i : Nat} {c : Bool} {w : World} (h : IntsAt w v T) (ho : Tree.Ok T) (hx : x < T.length) (hc : Tree.bel T x i = c) : Calls Try.prog 16 #[v, .int .i64 x, .int .i64 i] w fun e w' => e = .returned (.bool c) ∧ w = w' := hc ▸ below_any v T x i w h ho hx

/-- what check says of a pair of nodes -/
theorem pair_cases (T : List Int) (x y : Int) : (¬ Tree.Ok T ∧ checkF T [x, y] = 112) ∨ (Tree.Ok T ∧ (decide (0 ≤ x) && decide (x < T.length)) = false ∧ checkF T [x, y] = 5) ∨ (Tree.Ok T ∧ (decide (0 ≤ x) && decide (x < T.length)) = true ∧ (decide (0 ≤ y) && decide (y < T.length)) = false ∧ checkF T [x, y] = 5) ∨
    (Tree.Ok T ∧ checkF T [x, y] = 0 ∧ ∃ a b : Nat, x = a ∧ y = b ∧ a < T.length ∧ b < T.length) := by
  by_cases h0 : Tree.Ok T
  · have hb := (Tree.okB_iff T).2 h0
    right
    by_cases h1 : 0 ≤ x ∧ x < T.length
    · right
      by_cases h2 : 0 ≤ y ∧ y < T.length
      · right
        exact ⟨h0, checkF_ok hb (by intro z hz; simp at hz; rcases hz with rfl | rfl <;> assumption), x.toNat, y.toNat, by omega, by omega, by omega, by omega⟩
      · left
        exact ⟨h0, by simp [h1], by rw [Bool.and_eq_false_iff]; simp only [decide_eq_false_iff_not]; omega, checkF_out hb (x := y) (by simp) h2⟩
    · left
      exact ⟨h0, by rw [Bool.and_eq_false_iff]; simp only [decide_eq_false_iff_not]; omega, checkF_out hb (x := x) (by simp) h1⟩
  · left
    exact ⟨h0, checkF_bad _ (by rw [← Bool.not_eq_true, Tree.okB_iff]; exact h0)⟩

set_option maxRecDepth 20000 in
set_option maxHeartbeats 4000000 in
theorem rmeet_ok (v : Value) (T : List Int) (x y m : Nat) (w : World) (h : IntsAt w v T) (ho : Tree.Ok T) (hx : x < T.length) (hy : y < T.length) (hm : IsMeet T x y m) : Calls Try.prog 21 #[v, .int .i64 x, .int .i64 y] w fun e w' => e = .returned (.tuple #[.int .i64 m, .int .i64 0]) ∧ w = w' := by
  obtain ⟨a, cap, rfl, hlen⟩ := h.open
  have H := Lib.hid h
  have HO := Lib.hid ho
  have K24 := Lib.hid (check24_as h ho)
  have HX := Lib.hid hx
  have HY := Lib.hid hy
  have KX := Lib.hid (node_at (x := (x : Int)) (c := true) h (by simp; omega))
  have KY := Lib.hid (node_at (x := (y : Int)) (c := true) h (by simp; omega))
  have KB := fun (i : Nat) (c : Bool) (hc : Tree.bel T x i = c) => Lib.hid (below_as h ho hx hc)
  have KC := fun (i : Nat) (c : Bool) (hc : Tree.bel T y i = c) => Lib.hid (below_as h ho hy hc)
  have HM := Lib.hid hm
  have hmx : m ≤ 64 := by have := Tree.bel_ge hm.inA; have := ho.2.1; omega
  have hn64 : T.length ≤ 64 := ho.2.1
  have hmn : m < T.length := by have := Tree.bel_ge hm.inA; omega
  clear h ho hx hy hm
  generalize T.length = n at *
  go_enter Try.func21, Try.ntmps21
  go_wp2_with (first
    | (go_at_call 24; (with_reducible refine K24.out.mono ?_); rintro e w1 ⟨rfl, rfl⟩)
    | (go_at_call 34; (with_reducible refine KX.out.mono ?_); rintro e w1 ⟨rfl, rfl⟩)
    | (go_at_call 34; (with_reducible refine KY.out.mono ?_); rintro e w1 ⟨rfl, rfl⟩))
  go_loop [9, 10] (fun s t => ∃ (b i : Nat), s = .int .i64 b ∧ t = .int .i64 i ∧ i ≤ n ∧ b ≤ 64 ∧ Hid (m < i → b = m)) (fun _ t => n - (intOf t).toNat)
  case atStart => exact ⟨0, 0, rfl, rfl, by omega, by omega, fun h => by omega⟩
  case round =>
    obtain ⟨b, i, rfl, rfl, hi, hb, HQ⟩ := hrel
    by_cases hin : i < n
    · obtain ⟨p, hp⟩ : ∃ p, Tree.bel T x i = p := ⟨_, rfl⟩
      obtain ⟨q, hq⟩ : ∃ p, Tree.bel T y i = p := ⟨_, rfl⟩
      have K1 := KB i p hp
      have K2 := KC i q hq
      have HPQ := Lib.hid (show (p = true → q = true → i ≤ m) ∧ (i = m → p = true ∧ q = true) from ⟨fun h1 h2 => HM.out.top i (hp.trans h1) (hq.trans h2), fun e => ⟨hp.symm.trans (e ▸ HM.out.inA), hq.symm.trans (e ▸ HM.out.inB)⟩⟩)
      clear hp hq
      cases p with
      | false =>
        go_wp2_with (first
          | (go_at_call 16; (with_reducible refine K1.out.mono ?_); rintro e w1 ⟨rfl, rfl⟩))
        go_round
        case rel => exact ⟨b, i + 1, rfl, by go_num, by omega, hb, fun h => HQ.out (by have := HPQ.out.2; by_cases e : i = m; (have := (this e).1; cases this); omega)⟩
        case measure => simp [intOf]; omega
      | true =>
        cases q with
        | false =>
          go_wp2_with (first
            | (go_at_call 16; (with_reducible refine K1.out.mono ?_); rintro e w1 ⟨rfl, rfl⟩)
            | (go_at_call 16; (with_reducible refine K2.out.mono ?_); rintro e w1 ⟨rfl, rfl⟩))
          go_round
          case rel => exact ⟨b, i + 1, rfl, by go_num, by omega, hb, fun h => HQ.out (by have := HPQ.out.2; by_cases e : i = m; (have := (this e).2; cases this); omega)⟩
          case measure => simp [intOf]; omega
        | true =>
          go_wp2_with (first
            | (go_at_call 16; (with_reducible refine K1.out.mono ?_); rintro e w1 ⟨rfl, rfl⟩)
            | (go_at_call 16; (with_reducible refine K2.out.mono ?_); rintro e w1 ⟨rfl, rfl⟩))
          go_round
          case rel => exact ⟨i, i + 1, rfl, by go_num, by omega, by omega, fun h => by have := HPQ.out.1 (by simp) (by simp); omega⟩
          case measure => simp [intOf]; omega
    · obtain rfl : i = n := by omega
      obtain rfl : b = m := HQ.out hmn
      go_wp2_with fail
      go_ret2
      exact ⟨rfl, rfl⟩

set_option maxHeartbeats 2000000 in
theorem rmeet_bad (v : Value) (T : List Int) (x y c : Int) (w : World) (h : IntsAt w v T) (hc : checkF T [x, y] = c) (h0 : c ≠ 0) : Calls Try.prog 21 #[v, .int .i64 x, .int .i64 y] w fun e w' => e = .returned (.tuple #[.int .i64 0, .int .i64 c]) ∧ w = w' := by
  obtain ⟨a, cap, rfl, hlen⟩ := h.open
  rcases pair_cases T x y with ⟨h1, h2⟩ | ⟨h1, h2, h3⟩ | ⟨h1, h2, h3, h4⟩ | ⟨_, h2, _⟩
  · obtain rfl : c = 112 := hc.symm.trans h2
    have K24 := Lib.hid (check24_bad h h1)
    clear h hc h0 h1 h2
    generalize T.length = n at *
    go_enter Try.func21, Try.ntmps21
    go_wp2_with (first
      | (go_at_call 24; (with_reducible refine K24.out.mono ?_); rintro e w1 ⟨rfl, rfl⟩))
    go_ret2
    exact ⟨rfl, rfl⟩
  · obtain rfl : c = 5 := hc.symm.trans h3
    have K24 := Lib.hid (check24_as h h1)
    have KX := Lib.hid (node_at h h2)
    clear h hc h0 h1 h2 h3
    generalize T.length = n at *
    go_enter Try.func21, Try.ntmps21
    go_wp2_with (first
      | (go_at_call 24; (with_reducible refine K24.out.mono ?_); rintro e w1 ⟨rfl, rfl⟩)
      | (go_at_call 34; (with_reducible refine KX.out.mono ?_); rintro e w1 ⟨rfl, rfl⟩))
    go_ret2
    exact ⟨rfl, rfl⟩
  · obtain rfl : c = 5 := hc.symm.trans h4
    have K24 := Lib.hid (check24_as h h1)
    have KX := Lib.hid (node_at h h2)
    have KY := Lib.hid (node_at h h3)
    clear h hc h0 h1 h2 h3 h4
    generalize T.length = n at *
    go_enter Try.func21, Try.ntmps21
    go_wp2_with (first
      | (go_at_call 24; (with_reducible refine K24.out.mono ?_); rintro e w1 ⟨rfl, rfl⟩)
      | (go_at_call 34; (with_reducible refine KX.out.mono ?_); rintro e w1 ⟨rfl, rfl⟩)
      | (go_at_call 34; (with_reducible refine KY.out.mono ?_); rintro e w1 ⟨rfl, rfl⟩))
    go_ret2
    exact ⟨rfl, rfl⟩
  · exact absurd (hc.symm.trans h2) h0
set_option maxHeartbeats 2000000 in
theorem rpath_bad (v : Value) (T : List Int) (x y c : Int) (w : World) (h : IntsAt w v T) (hc : checkF T [x, y] = c) (h0 : c ≠ 0) : Calls Try.prog 22 #[v, .int .i64 x, .int .i64 y] w fun e w' => e = .returned (.tuple #[.slice none 0 0, .int .i64 c]) ∧ w = w' := by
  obtain ⟨a, cap, rfl, hlen⟩ := h.open
  rcases pair_cases T x y with ⟨h1, h2⟩ | ⟨h1, h2, h3⟩ | ⟨h1, h2, h3, h4⟩ | ⟨_, h2, _⟩
  · obtain rfl : c = 112 := hc.symm.trans h2
    have K24 := Lib.hid (check24_bad h h1)
    clear h hc h0 h1 h2
    generalize T.length = n at *
    go_enter Try.func22, Try.ntmps22
    go_wp2_with (first
      | (go_at_call 24; (with_reducible refine K24.out.mono ?_); rintro e w1 ⟨rfl, rfl⟩))
    go_ret2
    exact ⟨rfl, rfl⟩
  · obtain rfl : c = 5 := hc.symm.trans h3
    have K24 := Lib.hid (check24_as h h1)
    have KX := Lib.hid (node_at h h2)
    clear h hc h0 h1 h2 h3
    generalize T.length = n at *
    go_enter Try.func22, Try.ntmps22
    go_wp2_with (first
      | (go_at_call 24; (with_reducible refine K24.out.mono ?_); rintro e w1 ⟨rfl, rfl⟩)
      | (go_at_call 34; (with_reducible refine KX.out.mono ?_); rintro e w1 ⟨rfl, rfl⟩))
    go_ret2
    exact ⟨rfl, rfl⟩
  · obtain rfl : c = 5 := hc.symm.trans h4
    have K24 := Lib.hid (check24_as h h1)
    have KX := Lib.hid (node_at h h2)
    have KY := Lib.hid (node_at h h3)
    clear h hc h0 h1 h2 h3 h4
    generalize T.length = n at *
    go_enter Try.func22, Try.ntmps22
    go_wp2_with (first
      | (go_at_call 24; (with_reducible refine K24.out.mono ?_); rintro e w1 ⟨rfl, rfl⟩)
      | (go_at_call 34; (with_reducible refine KX.out.mono ?_); rintro e w1 ⟨rfl, rfl⟩)
      | (go_at_call 34; (with_reducible refine KY.out.mono ?_); rintro e w1 ⟨rfl, rfl⟩))
    go_ret2
    exact ⟨rfl, rfl⟩
  · exact absurd (hc.symm.trans h2) h0

/-- the first k of the links between two nodes -/
def pathTo (T : List Int) (x y k : Nat) : List Int := ((List.range k).filter fun i => Tree.bel T x i != Tree.bel T y i).map fun k : Nat => (k : Int)
theorem pathTo_succ (T : List Int) (x y k : Nat) : pathTo T x y (k + 1) = if (Tree.bel T x k != Tree.bel T y k) then pathTo T x y k ++ [(k : Int)] else pathTo T x y k := by
  unfold pathTo
  rw [List.range_succ, List.filter_append, List.map_append]
  cases h : (Tree.bel T x k != Tree.bel T y k) <;> simp [List.filter_cons, h]
theorem pathTo_one {T : List Int} (ho : Tree.Ok T) {x y : Nat} (hx : x < T.length) (hy : y < T.length) : pathTo T x y 1 = [] := by
  rw [pathTo_succ, Tree.bel_zero ho x hx, Tree.bel_zero ho y hy]
  rfl
theorem len_pathTo (T : List Int) (x y k : Nat) : (pathTo T x y k).length ≤ k := by
  unfold pathTo
  rw [List.length_map]
  exact Nat.le_trans (List.length_filter_le _ _) (by simp)

/-- a new slice of numbers -/
def PathO (w : World) (L : List Int) (q : Nat) (e : Ending) (w' : World) : Prop := ∃ a cap, e = .returned (.tuple #[.slice a q cap, .int .i64 0]) ∧ Own w w' (.slice a q cap) L
set_option maxRecDepth 20000 in
set_option maxHeartbeats 4000000 in
theorem rpath_ok (v : Value) (T L : List Int) (x y q : Nat) (w : World) (h : IntsAt w v T) (ho : Tree.Ok T) (hx : x < T.length) (hy : y < T.length) (hL : pathI T x y = L) (hq : L.length = q) : Calls Try.prog 22 #[v, .int .i64 x, .int .i64 y] w (PathO w L q) := by
  obtain ⟨a, cap, rfl, hlen⟩ := h.open
  have H := Lib.hid h
  have HO := Lib.hid ho
  have K24 := Lib.hid (check24_as h ho)
  have KX := Lib.hid (node_at (x := (x : Int)) (c := true) h (by simp; omega))
  have KY := Lib.hid (node_at (x := (y : Int)) (c := true) h (by simp; omega))
  have KB := fun (w' : World) (hb : Below w.heap.size w w') (i : Nat) (c : Bool) (hc : Tree.bel T x i = c) => Lib.hid (below_as (h.keep hb) ho hx hc)
  have KC := fun (w' : World) (hb : Below w.heap.size w w') (i : Nat) (c : Bool) (hc : Tree.bel T y i = c) => Lib.hid (below_as (h.keep hb) ho hy hc)
  have hn64 : T.length ≤ 64 := ho.2.1
  have hn1 : 1 ≤ T.length := ho.1
  have HS := Lib.hid (show Own w w (.slice none 0 0) (pathTo T x y 1) by rw [pathTo_one ho hx hy]; exact Own.start w)
  have HL0 := Lib.hid (show (pathTo T x y 1).length = 0 by rw [pathTo_one ho hx hy]; rfl)
  have HE := Lib.hid (show pathTo T x y T.length = L from hL)
  have HQ := Lib.hid hq
  clear h ho hx hy hL hq
  generalize T.length = n at *
  go_enter Try.func22, Try.ntmps22
  go_wp2_with (first
    | (go_at_call 24; (with_reducible refine K24.out.mono ?_); rintro e w1 ⟨rfl, rfl⟩)
    | (go_at_call 34; (with_reducible refine KX.out.mono ?_); rintro e w1 ⟨rfl, rfl⟩)
    | (go_at_call 34; (with_reducible refine KY.out.mono ?_); rintro e w1 ⟨rfl, rfl⟩))
  go_loopw [9, 10] (fun s t wr => ∃ (i u : Nat) (p : Option Addr) (c : Nat), s = .slice p u c ∧ t = .int .i64 i ∧ 1 ≤ i ∧ i ≤ n ∧ Hid ((pathTo T x y i).length = u) ∧ Hid (Own w wr (.slice p u c) (pathTo T x y i))) (fun _ t _ => n - (intOf t).toNat)
  case atStart => exact ⟨1, 0, none, 0, rfl, rfl, by omega, hn1, HL0, HS⟩
  case round =>
    rename World => wr
    obtain ⟨i, u, p, c, rfl, rfl, hi1, hi, HU, HV⟩ := hrel
    by_cases hin : i < n
    · obtain ⟨b1, hb1⟩ : ∃ b, Tree.bel T x i = b := ⟨_, rfl⟩
      obtain ⟨b2, hb2⟩ : ∃ b, Tree.bel T y i = b := ⟨_, rfl⟩
      have K1 := KB wr HV.out.below i b1 hb1
      have K2 := KC wr HV.out.below i b2 hb2
      have HN := Lib.hid (show pathTo T x y (i + 1) = if (b1 != b2) then pathTo T x y i ++ [(i : Int)] else pathTo T x y i by rw [pathTo_succ, hb1, hb2])
      have hu64 : u ≤ 64 := by have := len_pathTo T x y i; have := HU.out; omega
      clear hb1 hb2
      by_cases hbb : b1 = b2
      · subst hbb
        have HN2 := Lib.hid (show pathTo T x y (i + 1) = pathTo T x y i by rw [HN.out]; simp)
        clear HN
        cases b1
        all_goals
          go_wp2_with (first
            | (go_at_call 16; (with_reducible refine K1.out.mono ?_); rintro e w1 ⟨rfl, rfl⟩)
            | (go_at_call 16; (with_reducible refine K2.out.mono ?_); rintro e w1 ⟨rfl, rfl⟩))
          go_roundw
          case rel => exact ⟨i + 1, u, p, c, rfl, by go_num, by omega, by omega, by rw [HN2.out]; exact HU, by rw [HN2.out]; exact HV⟩
          case measure => simp [intOf]; omega
      · have HN2 := Lib.hid (show pathTo T x y (i + 1) = pathTo T x y i ++ [(i : Int)] by rw [HN.out]; simp [hbb])
        have HV1 := Lib.hid (HV.out.grow (below_alloc wr (.cells #[.int .i64 (i : Int)] 3)))
        have HU2 := Lib.hid (show (pathTo T x y (i + 1)).length = u + 1 by rw [HN2.out, List.length_append, HU.out]; rfl)
        clear HN
        cases b1 <;> cases b2
        · exact absurd rfl hbb
        · clear hbb
          go_wp2_with (first
            | (go_at_call 16; (with_reducible refine K1.out.mono ?_); rintro e w1 ⟨rfl, rfl⟩)
            | (go_at_call 16; (with_reducible refine K2.out.mono ?_); rintro e w1 ⟨rfl, rfl⟩)
            | (at_builtin; refine wpList_push (l := pathTo T x y i) (z := (i : Int)) _ _ rfl rfl rfl rfl HV1.out (by simp) (by simp) (by rw [HU.out]; omega) ?_; intro p2 c2 w2 HO2; rw [HU.out] at HO2; rw [HU.out]))
          go_roundw
          case rel => exact ⟨i + 1, u + 1, p2, c2, by go_num, by go_num, by omega, by omega, HU2, by rw [HN2.out]; exact HO2⟩
          case measure => simp [intOf]; omega
        · clear hbb
          go_wp2_with (first
            | (go_at_call 16; (with_reducible refine K1.out.mono ?_); rintro e w1 ⟨rfl, rfl⟩)
            | (go_at_call 16; (with_reducible refine K2.out.mono ?_); rintro e w1 ⟨rfl, rfl⟩)
            | (at_builtin; refine wpList_push (l := pathTo T x y i) (z := (i : Int)) _ _ rfl rfl rfl rfl HV1.out (by simp) (by simp) (by rw [HU.out]; omega) ?_; intro p2 c2 w2 HO2; rw [HU.out] at HO2; rw [HU.out]))
          go_roundw
          case rel => exact ⟨i + 1, u + 1, p2, c2, by go_num, by go_num, by omega, by omega, HU2, by rw [HN2.out]; exact HO2⟩
          case measure => simp [intOf]; omega
        · exact absurd rfl hbb
    · obtain rfl : i = n := by omega
      have hqu : u = q := by rw [← HU.out, HE.out, HQ.out]
      subst hqu
      have HR := Lib.hid (show Own w wr (.slice p u c) L from HE.out ▸ HV.out)
      go_wp2_with fail
      go_ret2
      exact ⟨_, _, rfl, HR.out⟩
end Go.Proofs.Ytkjamafpohnflaa
