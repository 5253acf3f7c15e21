/- Walks of the small functions: Within, Check, node, Below, SameInts, in. -/
import Derived.Test.YtkjamafpohnflaaSe
import Derived.LoopTactic
import Derived.Deep.QuietTactic
import Derived.BigQuiet
import Derived.IntWalk
set_option linter.unusedVariables false
set_option linter.unusedSimpArgs false
set_option linter.unnecessarySimpa false
namespace Go.Proofs.Ytkjamafpohnflaa
open Go Go.RowKit Go.Mem

def ints (l : List Int) : List Value := l.map (.int .i64)
theorem len_ints (l : List Int) : (ints l).length = l.length := by simp [ints]
/-- v is a slice that reads as the numbers of l -/
def IntsAt (w : World) (v : Value) (l : List Int) : Prop := Elems w v (ints l)
theorem IntsAt.below {B : Nat} {w w' : World} {v : Value} {l : List Int} (h : IntsAt w v l) (hb : Below B w w') (hB : w.heap.size ≤ B) : IntsAt w' v l := Elems.below h hb hB
theorem IntsAt.keep {w w' : World} {v : Value} {l : List Int} (h : IntsAt w v l) (hb : Below w.heap.size w w') : IntsAt w' v l := h.below hb (Nat.le_refl _)
theorem IntsAt.open {w : World} {v : Value} {l : List Int} (h : IntsAt w v l) : ∃ a cap, v = .slice a l.length cap ∧ l.length ≤ 140737488351232 := by
  have := Elems.open h; rwa [len_ints] at this
theorem IntsAt.cell {w : World} {a : Option Addr} {n cap : Nat} {l : List Int} (h : IntsAt w (.slice a n cap) l) {i : Nat} (hi : i < l.length) :
    ∃ b off, a = some ⟨b, off, none⟩ ∧ b < w.heap.size ∧ w.cell? ⟨b, off + i, none⟩ = some (.int .i64 (l.getD i 0)) := by
  obtain ⟨b, off, e, hb, hc⟩ := Elems.cell h (i := i) (by rw [len_ints]; exact hi)
  refine ⟨b, off, e, hb, ?_⟩
  rw [hc]
  simp [ints, hi]
theorem IntsAt.cell' {w : World} {b off : Nat} {n cap : Nat} {l : List Int} (h : IntsAt w (.slice (some ⟨b, off, none⟩) n cap) l) {i : Nat} (hi : i < l.length) :
    w.cell? ⟨b, off + i, none⟩ = some (.int .i64 (l.getD i 0)) := by
  obtain ⟨b', off', e, _, hc⟩ := h.cell hi
  cases e
  exact hc
/-- what Check returns -/
def codeOf (l : List Int) : Int := if Tree.okB l then 0 else 112
theorem code_ok {l : List Int} (h : Tree.okB l = true) : codeOf l = 0 := by unfold codeOf; rw [if_pos h]
theorem code_bad {l : List Int} (h : Tree.okB l = false) : codeOf l = 112 := by unfold codeOf; rw [h]; rfl
theorem IntsAt.nil (w : World) : IntsAt w (.slice none 0 0) [] := ⟨none, 0, rfl, Nat.le_refl _, by simp [maxLen], by decide, .inl rfl⟩

theorem tmod_emod (x n : Int) (h : 1 ≤ n) : (if x.tmod n < 0 then x.tmod n + n else x.tmod n) = x % n := by
  have h0 : 0 ≤ x % n := Int.emod_nonneg _ (by omega)
  have h1 : x % n < n := Int.emod_lt_of_pos _ (by omega)
  rcases Int.lt_or_le x 0 with hx | hx
  · have e : x.tmod n = -((-x) % n) := by
      have := Int.neg_tmod (-x) n
      rw [Int.neg_neg] at this
      rw [this, Int.tmod_eq_emod_of_nonneg (by omega)]
    rw [e]
    have g0 : 0 ≤ (-x) % n := Int.emod_nonneg _ (by omega)
    have g1 : (-x) % n < n := Int.emod_lt_of_pos _ (by omega)
    have key : x % n = if (-x) % n = 0 then 0 else n - (-x) % n := by
      have hx1 : x = n * (-((-x) / n)) + -((-x) % n) := by
        have := Int.mul_ediv_add_emod (-x) n
        rw [Int.mul_neg]; omega
      split
      · rename_i h0
        rw [h0] at hx1
        rw [hx1, Int.neg_zero, Int.add_zero]; exact Int.mul_emod_right _ _
      · rename_i hne
        have hx2 : x = (n - (-x) % n) + n * (-((-x) / n) - 1) := by rw [Int.mul_sub]; omega
        rw [hx2, Int.add_mul_emod_self_left]
        have : (-(n - -x % n + n * (-(-x / n) - 1))) % n = (-x) % n := by rw [← hx2]
        rw [this]
        exact Int.emod_eq_of_lt (by omega) (by omega)
    rw [key]
    split
    · split <;> omega
    · split <;> omega
  · rw [Int.tmod_eq_emod_of_nonneg hx, if_neg (by omega)]

set_option maxHeartbeats 1000000 in
theorem within_any (x n : Int) (w : World) (hn : 1 ≤ n) (hn2 : n ≤ 9223372036854775807) (h1 : -9223372036854775808 ≤ x) (h2 : x ≤ 9223372036854775807) :
    Calls Try.prog 10 #[.int .i64 x, .int .i64 n] w fun e w' => e = .returned (.int .i64 (x % n)) ∧ w = w' := by
  have he := tmod_emod x n hn
  have hn0 : ¬ n < 1 := by omega
  by_cases hneg : x.tmod n < 0
  · rw [if_pos hneg] at he
    have hb : 0 ≤ x % n ∧ x % n < n := ⟨Int.emod_nonneg _ (by omega), Int.emod_lt_of_pos _ (by omega)⟩
    have hw : wrap64 (x.tmod n + n) = x % n := by rw [he]; exact IntWalk.wrap64_in _ (by omega)
    have HW := Lib.hid hw
    clear he hw
    go_enter Try.func10, Try.ntmps10
    go_wp2_with fail
    go_ret
    exact ⟨congrArg (fun z => Ending.returned (.int .i64 z)) HW.out, rfl⟩
  · rw [if_neg hneg] at he
    have HE := Lib.hid he
    clear he
    go_enter Try.func10, Try.ntmps10
    go_wp2_with fail
    go_ret
    exact ⟨congrArg (fun z => Ending.returned (.int .i64 z)) HE.out, rfl⟩


set_option maxHeartbeats 1000000 in
theorem check23_any (v : Value) (l : List Int) (w : World) (h : IntsAt w v l) : Calls Try.prog 23 #[v] w fun e w' => e = .returned (.int .i64 (codeOf l)) ∧ w = w' := by
  obtain ⟨a, cap, rfl, hlen⟩ := h.open
  by_cases h1 : l.length < 1
  · have q1 : decide ((l.length : Int) < 1) = true := by simp; omega
    have HR := Lib.hid (show codeOf l = 112 from code_bad <| by rw [← Bool.not_eq_true, Tree.okB_iff]; intro ho; have := ho.1; omega)
    clear h h1
    generalize l.length = n at *
    go_enter Try.func23, Try.ntmps23
    go_wp2_with fail
    go_ret
    exact ⟨congrArg (fun z => Ending.returned (Value.int .i64 z)) HR.out.symm, rfl⟩
  have q1 : decide ((l.length : Int) < 1) = false := by simp; omega
  by_cases h2 : 64 < l.length
  · have q2 : decide ((64 : Int) < (l.length : Int)) = true := by simp; omega
    have HR := Lib.hid (show codeOf l = 112 from code_bad <| by rw [← Bool.not_eq_true, Tree.okB_iff]; intro ho; have := ho.2.1; omega)
    clear h h1 h2
    generalize l.length = n at *
    go_enter Try.func23, Try.ntmps23
    go_wp2_with fail
    go_ret
    exact ⟨congrArg (fun z => Ending.returned (Value.int .i64 z)) HR.out.symm, rfl⟩
  have q2 : decide ((64 : Int) < (l.length : Int)) = false := by simp; omega
  obtain ⟨b, off, rfl, hb, c0⟩ := h.cell (i := 0) (by omega)
  rw [Nat.add_zero] at c0
  by_cases h3 : l.getD 0 0 = -1
  · have HC := Lib.hid (fun i => h.cell' (i := i))
    have H0 := Lib.hid h3
    rw [h3] at c0
    have hl1 : 1 ≤ l.length := by omega
    have hl2 : l.length ≤ 64 := by omega
    have hi0 : (0 : Int) < (l.length : Int) := by omega
    obtain ⟨n, hn⟩ : ∃ n, l.length = n := ⟨_, rfl⟩
    have HN := Lib.hid hn
    rw [hn] at q1 q2 hl1 hl2 hlen hi0
    rw [hn]
    clear h h1 h2 h3 hn
    go_enter Try.func23, Try.ntmps23
    go_wp2_with fail
    go_loop [3] (fun i => ∃ k : Nat, 1 ≤ k ∧ k ≤ n ∧ i = .int .i64 k ∧ Hid (∀ j, 1 ≤ j → j < k → 0 ≤ l.getD j 0 ∧ l.getD j 0 < j)) (fun i => n - (intOf i).toNat)
    case atStart => exact ⟨1, by omega, by omega, rfl, fun j h1 h2 => by omega⟩
    case round =>
      obtain ⟨k, hk1, hk, rfl, HP⟩ := hrel
      by_cases hkn : k < n
      · obtain ⟨x, hx⟩ : ∃ x, l.getD k 0 = x := ⟨_, rfl⟩
        have ck := HC.out k (by rw [HN.out]; exact hkn)
        rw [hx] at ck
        have HX := Lib.hid hx
        clear hx
        by_cases hx0 : x < 0
        · have HR := Lib.hid (show codeOf l = 112 from code_bad <| by rw [← Bool.not_eq_true, Tree.okB_iff]; intro ho; have := ho.2.2.2 k hk1 (by rw [HN.out]; exact hkn); rw [HX.out] at this; omega)
          go_wp2_with fail
          go_ret
          exact ⟨congrArg (fun z => Ending.returned (Value.int .i64 z)) HR.out.symm, rfl⟩
        · by_cases hxk : (k : Int) ≤ x
          · have HR := Lib.hid (show codeOf l = 112 from code_bad <| by rw [← Bool.not_eq_true, Tree.okB_iff]; intro ho; have := ho.2.2.2 k hk1 (by rw [HN.out]; exact hkn); rw [HX.out] at this; omega)
            go_wp2_with fail
            go_ret
            exact ⟨congrArg (fun z => Ending.returned (Value.int .i64 z)) HR.out.symm, rfl⟩
          · go_wp2_with fail
            go_round
            case rel =>
              refine ⟨k + 1, by omega, by omega, by go_num, fun j h1 h2 => ?_⟩
              by_cases e : j = k
              · subst e; rw [HX.out]; omega
              · exact HP.out j h1 (by omega)
            case measure => simp [intOf]; omega
      · have HR := Lib.hid (show codeOf l = 0 from code_ok <| by rw [Tree.okB_iff]; exact ⟨by rw [HN.out]; omega, by rw [HN.out]; omega, H0.out, fun i h1 h2 => HP.out i h1 (by rw [HN.out] at h2; omega)⟩)
        go_wp2_with fail
        go_ret
        exact ⟨congrArg (fun z => Ending.returned (Value.int .i64 z)) HR.out.symm, rfl⟩
  · obtain ⟨x, hx⟩ : ∃ x, l.getD 0 0 = x := ⟨_, rfl⟩
    have q3 : (x != -1) = true := by simp; rw [← hx]; exact h3
    rw [hx] at c0
    have HR := Lib.hid (show codeOf l = 112 from code_bad <| by rw [← Bool.not_eq_true, Tree.okB_iff]; intro ho; exact h3 ho.2.2.1)
    have hi0 : (0 : Int) < (l.length : Int) := by omega
    clear h h1 h2 h3 hx
    generalize l.length = n at *
    go_enter Try.func23, Try.ntmps23
    go_wp2_with fail
    go_ret
    exact ⟨congrArg (fun z => Ending.returned (Value.int .i64 z)) HR.out.symm, rfl⟩

set_option maxHeartbeats 1000000 in
theorem check24_any (v : Value) (l : List Int) (w : World) (h : IntsAt w v l) : Calls Try.prog 24 #[v] w fun e w' => e = .returned (.int .i64 (codeOf l)) ∧ w = w' := by
  obtain ⟨a, cap, rfl, hlen⟩ := h.open
  by_cases h1 : l.length < 1
  · have q1 : decide ((l.length : Int) < 1) = true := by simp; omega
    have HR := Lib.hid (show codeOf l = 112 from code_bad <| by rw [← Bool.not_eq_true, Tree.okB_iff]; intro ho; have := ho.1; omega)
    clear h h1
    generalize l.length = n at *
    go_enter Try.func24, Try.ntmps24
    go_wp2_with fail
    go_ret
    exact ⟨congrArg (fun z => Ending.returned (Value.int .i64 z)) HR.out.symm, rfl⟩
  have q1 : decide ((l.length : Int) < 1) = false := by simp; omega
  by_cases h2 : 64 < l.length
  · have q2 : decide ((64 : Int) < (l.length : Int)) = true := by simp; omega
    have HR := Lib.hid (show codeOf l = 112 from code_bad <| by rw [← Bool.not_eq_true, Tree.okB_iff]; intro ho; have := ho.2.1; omega)
    clear h h1 h2
    generalize l.length = n at *
    go_enter Try.func24, Try.ntmps24
    go_wp2_with fail
    go_ret
    exact ⟨congrArg (fun z => Ending.returned (Value.int .i64 z)) HR.out.symm, rfl⟩
  have q2 : decide ((64 : Int) < (l.length : Int)) = false := by simp; omega
  obtain ⟨b, off, rfl, hb, c0⟩ := h.cell (i := 0) (by omega)
  rw [Nat.add_zero] at c0
  by_cases h3 : l.getD 0 0 = -1
  · have HC := Lib.hid (fun i => h.cell' (i := i))
    have H0 := Lib.hid h3
    rw [h3] at c0
    have hl1 : 1 ≤ l.length := by omega
    have hl2 : l.length ≤ 64 := by omega
    have hi0 : (0 : Int) < (l.length : Int) := by omega
    obtain ⟨n, hn⟩ : ∃ n, l.length = n := ⟨_, rfl⟩
    have HN := Lib.hid hn
    rw [hn] at q1 q2 hl1 hl2 hlen hi0
    rw [hn]
    clear h h1 h2 h3 hn
    go_enter Try.func24, Try.ntmps24
    go_wp2_with fail
    go_loop [3] (fun i => ∃ k : Nat, 1 ≤ k ∧ k ≤ n ∧ i = .int .i64 k ∧ Hid (∀ j, 1 ≤ j → j < k → 0 ≤ l.getD j 0 ∧ l.getD j 0 < j)) (fun i => n - (intOf i).toNat)
    case atStart => exact ⟨1, by omega, by omega, rfl, fun j h1 h2 => by omega⟩
    case round =>
      obtain ⟨k, hk1, hk, rfl, HP⟩ := hrel
      by_cases hkn : k < n
      · obtain ⟨x, hx⟩ : ∃ x, l.getD k 0 = x := ⟨_, rfl⟩
        have ck := HC.out k (by rw [HN.out]; exact hkn)
        rw [hx] at ck
        have HX := Lib.hid hx
        clear hx
        by_cases hx0 : x < 0
        · have HR := Lib.hid (show codeOf l = 112 from code_bad <| by rw [← Bool.not_eq_true, Tree.okB_iff]; intro ho; have := ho.2.2.2 k hk1 (by rw [HN.out]; exact hkn); rw [HX.out] at this; omega)
          go_wp2_with fail
          go_ret
          exact ⟨congrArg (fun z => Ending.returned (Value.int .i64 z)) HR.out.symm, rfl⟩
        · by_cases hxk : (k : Int) ≤ x
          · have HR := Lib.hid (show codeOf l = 112 from code_bad <| by rw [← Bool.not_eq_true, Tree.okB_iff]; intro ho; have := ho.2.2.2 k hk1 (by rw [HN.out]; exact hkn); rw [HX.out] at this; omega)
            go_wp2_with fail
            go_ret
            exact ⟨congrArg (fun z => Ending.returned (Value.int .i64 z)) HR.out.symm, rfl⟩
          · go_wp2_with fail
            go_round
            case rel =>
              refine ⟨k + 1, by omega, by omega, by go_num, fun j h1 h2 => ?_⟩
              by_cases e : j = k
              · subst e; rw [HX.out]; omega
              · exact HP.out j h1 (by omega)
            case measure => simp [intOf]; omega
      · have HR := Lib.hid (show codeOf l = 0 from code_ok <| by rw [Tree.okB_iff]; exact ⟨by rw [HN.out]; omega, by rw [HN.out]; omega, H0.out, fun i h1 h2 => HP.out i h1 (by rw [HN.out] at h2; omega)⟩)
        go_wp2_with fail
        go_ret
        exact ⟨congrArg (fun z => Ending.returned (Value.int .i64 z)) HR.out.symm, rfl⟩
  · obtain ⟨x, hx⟩ : ∃ x, l.getD 0 0 = x := ⟨_, rfl⟩
    have q3 : (x != -1) = true := by simp; rw [← hx]; exact h3
    rw [hx] at c0
    have HR := Lib.hid (show codeOf l = 112 from code_bad <| by rw [← Bool.not_eq_true, Tree.okB_iff]; intro ho; exact h3 ho.2.2.1)
    have hi0 : (0 : Int) < (l.length : Int) := by omega
    clear h h1 h2 h3 hx
    generalize l.length = n at *
    go_enter Try.func24, Try.ntmps24
    go_wp2_with fail
    go_ret
    exact ⟨congrArg (fun z => Ending.returned (Value.int .i64 z)) HR.out.symm, rfl⟩

set_option maxHeartbeats 1000000 in
theorem node_any (v : Value) (l : List Int) (x : Int) (w : World) (h : IntsAt w v l) : Calls Try.prog 34 #[v, .int .i64 x] w fun e w' => e = .returned (.bool (decide (0 ≤ x) && decide (x < l.length))) ∧ w = w' := by
  obtain ⟨a, cap, rfl, hlen⟩ := h.open
  clear h
  by_cases h0 : 0 ≤ x <;> by_cases h1 : x < l.length
  all_goals
    generalize l.length = n at *
    go_enter Try.func34, Try.ntmps34
    go_wp2_with fail
    go_ret
    exact ⟨by simp [h0, h1], rfl⟩
end Go.Proofs.Ytkjamafpohnflaa
