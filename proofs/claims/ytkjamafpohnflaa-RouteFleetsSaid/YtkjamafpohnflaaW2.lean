/- Walks of Below, SameInts, in, check, above. -/
import Derived.Test.YtkjamafpohnflaaW1
set_option linter.unusedVariables false
set_option linter.unusedSimpArgs false
set_option linter.unnecessarySimpa false
namespace Go.Proofs.Ytkjamafpohnflaa
open Go Go.RowKit Go.Mem

theorem ret_bool {a b : Bool} (h : a = b) : Ending.returned (.bool a) = .returned (.bool b) := by rw [h]
theorem ret_int {a b : Int} (h : a = b) : Ending.returned (.int .i64 a) = .returned (.int .i64 b) := by rw [h]

set_option maxHeartbeats 1000000 in
theorem below_any (v : Value) (l : List Int) (x i : Nat) (w : World) (h : IntsAt w v l) (ho : Tree.Ok l) (hx : x < l.length) : Calls Try.prog 16 #[v, .int .i64 x, .int .i64 i] w fun e w' => e = .returned (.bool (Tree.bel l x i)) ∧ w = w' := by
  obtain ⟨a, cap, rfl, hlen⟩ := h.open
  obtain ⟨R, hR⟩ : ∃ R, Tree.bel l x i = R := ⟨_, rfl⟩
  rw [hR]
  have HR := Lib.hid hR
  have H := Lib.hid h
  have HO := Lib.hid ho
  obtain ⟨n, hn⟩ : ∃ n, l.length = n := ⟨_, rfl⟩
  have HN := Lib.hid hn
  have hn64 : n ≤ 64 := by have := ho.2.1; omega
  rw [hn] at hx
  rw [hn] at hlen ⊢
  clear h ho hR hn
  go_enter Try.func16, Try.ntmps16
  go_wp2_with fail
  go_loop [1] (fun s => ∃ y : Nat, y < n ∧ s = .int .i64 y ∧ Hid (Tree.bel l y i = R)) (fun s => (intOf s).toNat)
  case atStart => exact ⟨x, hx, rfl, HR⟩
  case round =>
    obtain ⟨y, hy, rfl, HY⟩ := hrel
    by_cases hyi : i < y
    · obtain ⟨b, off, rfl, hb, ck⟩ := H.out.cell (i := y) (by rw [HN.out]; exact hy)
      have hu := Tree.up_lt HO.out (x := y) (by omega) (by rw [HN.out]; exact hy)
      obtain ⟨u, hu'⟩ : ∃ u, Tree.up l y = u := ⟨_, rfl⟩
      rw [hu.2, hu'] at ck
      have hlt : u < y := by have := hu.1; omega
      have HU := Lib.hid (show Tree.bel l u i = R by rw [← HY.out, Tree.bel_gt HO.out (by rw [HN.out]; exact hy) hyi, hu'])
      clear hu hu'
      go_wp2_with fail
      go_round
      case rel => exact ⟨u, by omega, rfl, HU⟩
      case measure => simp [intOf]; omega
    · have HE := Lib.hid (show (y == i) = R by rw [← HY.out, Tree.bel_le (by omega)])
      go_wp2_with fail
      go_ret
      refine ⟨ret_bool ?_, rfl⟩
      rw [← HE.out, Bool.eq_iff_iff]
      simp only [beq_iff_eq, decide_eq_true_eq]
      omega

theorem drewN_drewN (w : World) (a b : Nat) : (w.drewN a).drewN b = w.drewN (a + b) := by simp [World.drewN, Nat.add_assoc]
set_option maxHeartbeats 1000000 in
theorem same_any (u v : Value) (l m : List Int) (w : World) (h : IntsAt w u l) (h2 : IntsAt w v m) : Calls Try.prog 12 #[u, v] w fun e w' => e = .returned (.bool (decide (l = m))) ∧ ∃ q, w' = w.drewN q := by
  obtain ⟨a, cap, rfl, hlen⟩ := h.open
  obtain ⟨a2, cap2, rfl, hlen2⟩ := h2.open
  obtain ⟨R, hR⟩ : ∃ R, decide (l = m) = R := ⟨_, rfl⟩
  rw [hR]
  have HR := Lib.hid hR
  have H := Lib.hid h
  have H2 := Lib.hid h2
  obtain ⟨n, hn⟩ : ∃ n, l.length = n := ⟨_, rfl⟩
  have HN := Lib.hid hn
  obtain ⟨n2, hn2⟩ : ∃ n, m.length = n := ⟨_, rfl⟩
  have HN2 := Lib.hid hn2
  rw [hn] at hlen ⊢
  rw [hn2] at hlen2 ⊢
  clear h h2 hR hn hn2
  by_cases hne : n = n2
  · subst hne
    go_enter Try.func12, Try.ntmps12
    go_wp2_with fail
    go_loopw [5] (fun s wr => ∃ k q : Nat, k ≤ n ∧ s = .int .i64 k ∧ wr = w.drewN q ∧ Hid (∀ j, j < k → l.getD j 0 = m.getD j 0)) (fun s _ => n - (intOf s).toNat)
    case atStart => exact ⟨0, 0, by omega, rfl, rfl, fun j h => by omega⟩
    case round =>
      obtain ⟨k, q, hk, rfl, rfl, HP⟩ := hrel
      by_cases hkn : k < n
      · obtain ⟨b, off, rfl, hb, ck⟩ := H.out.cell (i := k) (by rw [HN.out]; exact hkn)
        obtain ⟨b2, off2, rfl, hb2, ck2⟩ := H2.out.cell (i := k) (by rw [HN2.out]; exact hkn)
        obtain ⟨x, hx⟩ : ∃ x, l.getD k 0 = x := ⟨_, rfl⟩
        obtain ⟨y, hy⟩ : ∃ x, m.getD k 0 = x := ⟨_, rfl⟩
        rw [hx] at ck
        rw [hy] at ck2
        have HX := Lib.hid hx
        have HY := Lib.hid hy
        clear hx hy
        by_cases hxy : x = y
        · subst hxy
          go_wp2_with fail
          go_quiet (fail)
          go_wp2_with fail
          go_roundw
          case rel =>
            refine ⟨k + 1, q + nq, by omega, by go_num, rfl, fun j h1 => ?_⟩
            by_cases e : j = k
            · subst e; rw [HX.out, HY.out]
            · exact HP.out j (by omega)
          case measure => simp [intOf]; omega
        · have hxy2 : (x != y) = true := by simpa using hxy
          have HF := Lib.hid (show R = false by rw [← HR.out, decide_eq_false_iff_not]; intro e; apply hxy; rw [← HX.out, ← HY.out, e])
          clear hxy
          go_wp2_with fail
          go_quiet (fail)
          go_wp2_with fail
          go_ret
          exact ⟨ret_bool HF.out.symm, q + nq, drewN_drewN _ _ _⟩
      · have HT := Lib.hid (show R = true by
          rw [← HR.out, decide_eq_true_eq]
          refine List.ext_getElem? fun j => ?_
          by_cases hj : j < n
          · have := HP.out j (by omega)
            have e1 : j < l.length := by rw [HN.out]; exact hj
            have e2 : j < m.length := by rw [HN2.out]; exact hj
            simpa [List.getD_eq_getElem?_getD, e1, e2] using this
          · rw [List.getElem?_eq_none (by rw [HN.out]; omega), List.getElem?_eq_none (by rw [HN2.out]; omega)])
        go_wp2_with fail
        go_ret
        exact ⟨ret_bool HT.out.symm, _, rfl⟩
  · have hq : ((n : Int) != (n2 : Int)) = true := by simp; omega
    have HF := Lib.hid (show R = false by rw [← HR.out, decide_eq_false_iff_not]; intro e; apply hne; rw [← HN.out, ← HN2.out, e])
    clear hne
    go_enter Try.func12, Try.ntmps12
    go_wp2_with fail
    go_ret
    exact ⟨ret_bool HF.out.symm, 0, rfl⟩

set_option maxHeartbeats 1000000 in
theorem in_any (u : Value) (l : List Int) (x : Int) (w : World) (h : IntsAt w u l) : Calls Try.prog 13 #[u, .int .i64 x] w fun e w' => e = .returned (.bool (decide (x ∈ l))) ∧ w = w' := by
  obtain ⟨a, cap, rfl, hlen⟩ := h.open
  obtain ⟨R, hR⟩ : ∃ R, decide (x ∈ l) = R := ⟨_, rfl⟩
  rw [hR]
  have HR := Lib.hid hR
  have H := Lib.hid h
  obtain ⟨n, hn⟩ : ∃ n, l.length = n := ⟨_, rfl⟩
  have HN := Lib.hid hn
  rw [hn] at hlen ⊢
  clear h hR hn
  go_enter Try.func13, Try.ntmps13
  go_wp2_with fail
  go_loop [5] (fun s => ∃ k : Nat, k ≤ n ∧ s = .int .i64 k ∧ Hid (∀ j, j < k → l.getD j 0 ≠ x)) (fun s => n - (intOf s).toNat)
  case atStart => exact ⟨0, by omega, rfl, fun j h => by omega⟩
  case round =>
    obtain ⟨k, hk, rfl, HP⟩ := hrel
    by_cases hkn : k < n
    · obtain ⟨b, off, rfl, hb, ck⟩ := H.out.cell (i := k) (by rw [HN.out]; exact hkn)
      obtain ⟨y, hy⟩ : ∃ x, l.getD k 0 = x := ⟨_, rfl⟩
      rw [hy] at ck
      have HY := Lib.hid hy
      clear hy
      by_cases hxy : y = x
      · subst hxy
        have HT := Lib.hid (show R = true by
          rw [← HR.out, decide_eq_true_eq, ← HY.out]
          have e1 : k < l.length := by rw [HN.out]; exact hkn
          rw [List.getD_eq_getElem?_getD, List.getElem?_eq_getElem e1]
          exact List.getElem_mem e1)
        go_wp2_with fail
        go_ret
        exact ⟨ret_bool HT.out.symm, rfl⟩
      · have hxy2 : (y == x) = false := by simpa using hxy
        have HX := Lib.hid hxy
        clear hxy
        go_wp2_with fail
        go_round
        case rel =>
          refine ⟨k + 1, by omega, by go_num, fun j h1 => ?_⟩
          by_cases e : j = k
          · subst e; rw [HY.out]; exact HX.out
          · exact HP.out j (by omega)
        case measure => simp [intOf]; omega
    · have HF := Lib.hid (show R = false by
        rw [← HR.out, decide_eq_false_iff_not]
        intro e
        obtain ⟨j, hj, e1⟩ := List.getElem_of_mem e
        have := HP.out j (by rw [HN.out] at hj; omega)
        rw [List.getD_eq_getElem?_getD, List.getElem?_eq_getElem hj] at this
        exact this e1)
      go_wp2_with fail
      go_ret
      exact ⟨ret_bool HF.out.symm, rfl⟩

/-- what check returns -/
def checkF (l ns : List Int) : Int := if Tree.okB l then (if ns.all (fun x => decide (0 ≤ x) && decide (x < l.length)) then 0 else 5) else 112
theorem checkF_bad {l : List Int} (ns : List Int) (h : Tree.okB l = false) : checkF l ns = 112 := by unfold checkF; rw [h]; rfl
theorem checkF_ok {l ns : List Int} (h : Tree.okB l = true) (h2 : ∀ x ∈ ns, 0 ≤ x ∧ x < l.length) : checkF l ns = 0 := by
  unfold checkF; rw [if_pos h, if_pos (by rw [List.all_eq_true]; intro x hx; have := h2 x hx; simp [this])]
theorem checkF_out {l ns : List Int} (h : Tree.okB l = true) {x : Int} (hx : x ∈ ns) (h2 : ¬ (0 ≤ x ∧ x < l.length)) : checkF l ns = 5 := by
  unfold checkF; rw [if_pos h, if_neg]; rw [List.all_eq_true]; intro hc; have := hc x hx; simp at this; exact h2 this
theorem getD_mem {l : List Int} {k : Nat} (h : k < l.length) : l.getD k 0 ∈ l := by
  rw [List.getD_eq_getElem?_getD, List.getElem?_eq_getElem h]
  exact List.getElem_mem h

set_option maxHeartbeats 1000000 in
theorem chk_any (v u : Value) (l ns : List Int) (w : World) (h : IntsAt w v l) (h2 : IntsAt w u ns) : Calls Try.prog 29 #[v, u] w fun e w' => e = .returned (.int .i64 (checkF l ns)) ∧ w = w' := by
  obtain ⟨a, cap, rfl, hlen⟩ := h.open
  obtain ⟨a2, cap2, rfl, hlen2⟩ := h2.open
  have K := Lib.hid (check23_any _ l w h)
  cases hok : Tree.okB l with
  | false =>
    have HR := Lib.hid (checkF_bad ns hok)
    have K2 := K.out
    rw [code_bad hok] at K2
    have K3 := Lib.hid K2
    clear h h2 hok K K2
    generalize l.length = n at *
    generalize ns.length = n2 at *
    go_enter Try.func29, Try.ntmps29
    go_wp2_with (go_at_call 23; (with_reducible refine K3.out.mono ?_); rintro e w1 ⟨rfl, rfl⟩)
    go_ret
    exact ⟨ret_int HR.out.symm, rfl⟩
  | true =>
    have K2 := K.out
    rw [code_ok hok] at K2
    have K3 := Lib.hid K2
    have HO := Lib.hid hok
    have H2 := Lib.hid h2
    obtain ⟨n, hn⟩ : ∃ n, l.length = n := ⟨_, rfl⟩
    have HN := Lib.hid hn
    obtain ⟨n2, hn2⟩ : ∃ n, ns.length = n := ⟨_, rfl⟩
    have HN2 := Lib.hid hn2
    rw [hn] at hlen K3
    rw [hn2] at hlen2
    rw [hn, hn2]
    clear h h2 hok K K2 hn hn2
    go_enter Try.func29, Try.ntmps29
    go_wp2_with (go_at_call 23; (with_reducible refine K3.out.mono ?_); rintro e w1 ⟨rfl, rfl⟩)
    go_loop [15] (fun s => ∃ k : Nat, k ≤ n2 ∧ s = .int .i64 k ∧ Hid (∀ j, j < k → 0 ≤ ns.getD j 0 ∧ ns.getD j 0 < n)) (fun s => n2 - (intOf s).toNat)
    case atStart => exact ⟨0, by omega, rfl, fun j h => by omega⟩
    case round =>
      obtain ⟨k, hk, rfl, HP⟩ := hrel
      by_cases hkn : k < n2
      · obtain ⟨b, off, rfl, hb, ck⟩ := H2.out.cell (i := k) (by rw [HN2.out]; exact hkn)
        obtain ⟨y, hy⟩ : ∃ x, ns.getD k 0 = x := ⟨_, rfl⟩
        have HM := Lib.hid (show y ∈ ns by rw [← hy]; exact getD_mem (by rw [HN2.out]; exact hkn))
        rw [hy] at ck
        have HY := Lib.hid hy
        clear hy
        by_cases hy0 : y < 0
        · have HR := Lib.hid (checkF_out HO.out HM.out (by omega))
          go_wp2_with fail
          go_ret
          exact ⟨ret_int HR.out.symm, rfl⟩
        · by_cases hyn : (n : Int) ≤ y
          · have HR := Lib.hid (checkF_out HO.out HM.out (by rw [HN.out]; omega))
            go_wp2_with fail
            go_ret
            exact ⟨ret_int HR.out.symm, rfl⟩
          · go_wp2_with fail
            go_round
            case rel =>
              refine ⟨k + 1, by omega, by go_num, fun j h1 => ?_⟩
              by_cases e : j = k
              · subst e; rw [HY.out]; omega
              · exact HP.out j (by omega)
            case measure => simp [intOf]; omega
      · have HR := Lib.hid (checkF_ok (l := l) (ns := ns) HO.out (fun x hx => by
          obtain ⟨j, hj, e1⟩ := List.getElem_of_mem hx
          have := HP.out j (by rw [HN2.out] at hj; omega)
          rw [List.getD_eq_getElem?_getD, List.getElem?_eq_getElem hj] at this
          rw [HN.out, ← e1]
          exact this))
        go_wp2_with fail
        go_ret
        exact ⟨ret_int HR.out.symm, rfl⟩
end Go.Proofs.Ytkjamafpohnflaa
