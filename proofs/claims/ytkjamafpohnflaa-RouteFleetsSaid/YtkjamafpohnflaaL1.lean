/- The walks of RouteTriangles and what the laws share. -/
import Derived.Test.YtkjamafpohnflaaW5
set_option linter.unusedVariables false
set_option linter.unusedSimpArgs false
set_option linter.unnecessarySimpa false
namespace Go.Proofs.Ytkjamafpohnflaa
open Go Go.RowKit Go.Mem

theorem ints_of_seq {w : World} {v : Value} {n : Nat} {f : Nat → Int} (h : Seq w v 1 n (fun i => [.int .i64 (f i)])) (hn : n ≤ 140737488351232) : ∃ v', v = v' ∧ (∃ a cap, v = .slice a n cap) ∧ (∀ cap', (∃ a, v = .slice a n cap') → cap' ≤ maxLen → IntsAt w v ((List.range n).map f)) := by
  obtain ⟨a, cap, rfl, h1, h2, h3⟩ := h
  refine ⟨_, rfl, ⟨a, cap, rfl⟩, fun cap' ⟨a', e⟩ hc => ?_⟩
  cases e
  refine ⟨a, cap, by rw [len_ints]; simp, by rw [len_ints]; simpa using h1, hc, by rw [len_ints]; simpa using hn, ?_⟩
  by_cases h0 : n = 0
  · subst h0; exact .inl rfl
  · obtain ⟨b, off, rfl, hb, _⟩ := h3 0 (by omega)
    refine .inr ⟨b, off, rfl, hb, fun i hi => ?_⟩
    rw [len_ints] at hi
    obtain ⟨b', off', e, _, hc2⟩ := h3 i (by simpa using hi)
    cases e
    have := hc2 0 _ rfl
    rw [Nat.mul_one, Nat.add_zero] at this
    rw [this]
    have hi' : i < n := by simpa using hi
    simp [ints, hi']

/-- Path, its length told -/
def PathP (w : World) (L : List Int) (n : Nat) (e : Ending) (w' : World) : Prop := ∃ a cap, e = .returned (.tuple #[.slice a n cap, .int .i64 0]) ∧ IntsAt w' (.slice a n cap) L ∧ Below w.heap.size w w'
theorem Path_as {v : Value} {l L : List Int} {x y n : Nat} (w : World) (h : IntsAt w v l) (ho : Tree.Ok l) (hx : x < l.length) (hy : y < l.length) (hL : pathI l x y = L) (hn : L.length = n) : Calls Try.prog 11 #[v, .int .i64 x, .int .i64 y] w (PathP w L n) := by
  subst hn; subst hL; exact Path_ok v l x y w h ho hx hy
theorem same_as {u v : Value} {l : List Int} {w : World} (h : IntsAt w u l) (h2 : IntsAt w v l) : Calls Try.prog 12 #[u, v] w fun e w' => e = .returned (.bool true) ∧ Below w.heap.size w w' :=
  (same_any u v l l w h h2).mono fun e w' ⟨h1, q, h2⟩ => ⟨by rw [h1]; simp, by rw [h2]; exact below_drewN q (Below.refl _ _)⟩
theorem path_sym (l : List Int) (x y : Nat) : pathI l y x = pathI l x y := by
  unfold pathI Tree.pathL
  congr 1
  refine List.filter_congr fun i _ => ?_
  cases Tree.bel l x i <;> cases Tree.bel l y i <;> rfl
theorem mem_pathI {l : List Int} {x y k : Nat} (hk : k < l.length) : decide ((k : Int) ∈ pathI l x y) = (Tree.bel l x k != Tree.bel l y k) := by
  rw [Bool.eq_iff_iff, decide_eq_true_eq]
  unfold pathI
  rw [List.mem_map]
  constructor
  · rintro ⟨i, hi, e⟩
    have : i = k := by omega
    subst this
    simpa using (Tree.mem_path.1 hi).2
  · intro h
    exact ⟨k, Tree.mem_path.2 ⟨hk, by simpa using h⟩, rfl⟩
theorem path_nil (l : List Int) (x : Nat) : pathI l x x = [] := by
  unfold pathI Tree.pathL
  simp
theorem in_as {u : Value} {l : List Int} {x : Int} {c : Bool} {w : World} (h : IntsAt w u l) (hc : decide (x ∈ l) = c) : Calls Try.prog 13 #[u, .int .i64 x] w fun e w' => e = .returned (.bool c) ∧ w = w' := hc ▸ in_any u l x w h

set_option maxRecDepth 20000 in
set_option maxHeartbeats 8000000 in
theorem triangles_law (v : Value) (l : List Int) (a b c : Int) (w : World) (h : IntsAt w v l) (h64 : ∀ x ∈ l, In64 x) (ha : In64 a) (hb : In64 b) (hc : In64 c) : Calls Try.prog 3 #[v, .int .i64 a, .int .i64 b, .int .i64 c] w fun e w' => e = .returned (.bool true) ∧ Below w.heap.size w w' := by
  have K0 := Lib.hid (made_any v l w h h64)
  obtain ⟨N, hN⟩ : ∃ N, min l.length 39 = N := ⟨_, rfl⟩
  rw [hN] at K0
  have hN39 : N ≤ 39 := by omega
  obtain ⟨T, hT⟩ : ∃ T, madeN (fun i => l.getD i 0) N = T := ⟨_, rfl⟩
  rw [hT] at K0
  have HO := Lib.hid (show Tree.Ok T from hT ▸ made_ok _ (by omega))
  have HTL := Lib.hid (show T.length = N + 1 from hT ▸ len_made _ _)
  have node : ∀ q : Int, In64 q → ∃ k : Nat, k < N + 1 ∧ ∀ w, Hid (Calls Try.prog 10 #[.int .i64 q, .int .i64 ((N : Int) + 1)] w fun e w' => e = .returned (.int .i64 (k : Int)) ∧ w = w') := fun q hq => by
    have h3 := Int.emod_nonneg q (b := (N : Int) + 1) (by omega)
    have h4 := Int.emod_lt_of_pos q (b := (N : Int) + 1) (by omega)
    obtain ⟨k, hk⟩ : ∃ k : Nat, q % ((N : Int) + 1) = k := ⟨(q % ((N : Int) + 1)).toNat, by omega⟩
    exact ⟨k, by omega, fun w => hk ▸ within_any q ((N : Int) + 1) w (by omega) (by omega) hq.1 hq.2⟩
  obtain ⟨A, hA, KA⟩ := node a ha
  obtain ⟨B, hB, KB⟩ := node b hb
  obtain ⟨C, hC, KC⟩ := node c hc
  obtain ⟨L1, hL1⟩ : ∃ L, pathI T A B = L := ⟨_, rfl⟩
  obtain ⟨L2, hL2⟩ : ∃ L, pathI T B C = L := ⟨_, rfl⟩
  obtain ⟨L3, hL3⟩ : ∃ L, pathI T A C = L := ⟨_, rfl⟩
  obtain ⟨n1, hn1⟩ : ∃ n, L1.length = n := ⟨_, rfl⟩
  obtain ⟨n2, hn2⟩ : ∃ n, L2.length = n := ⟨_, rfl⟩
  obtain ⟨n3, hn3⟩ : ∃ n, L3.length = n := ⟨_, rfl⟩
  have P1 := fun w (u : Value) (h : IntsAt w u T) => Lib.hid (Path_as w h HO.out (by rw [HTL.out]; exact hA) (by rw [HTL.out]; exact hB) hL1 hn1)
  have P2 := fun w (u : Value) (h : IntsAt w u T) => Lib.hid (Path_as w h HO.out (by rw [HTL.out]; exact hB) (by rw [HTL.out]; exact hA) ((path_sym T A B).trans hL1) hn1)
  have P3 := fun w (u : Value) (h : IntsAt w u T) => Lib.hid (Path_as w h HO.out (by rw [HTL.out]; exact hB) (by rw [HTL.out]; exact hC) hL2 hn2)
  have P4 := fun w (u : Value) (h : IntsAt w u T) => Lib.hid (Path_as w h HO.out (by rw [HTL.out]; exact hA) (by rw [HTL.out]; exact hC) hL3 hn3)
  have HM := Lib.hid (show ∀ k : Nat, k < N + 1 → ∃ p q r : Bool, decide ((k : Int) ∈ L1) = (p != q) ∧ decide ((k : Int) ∈ L2) = (q != r) ∧ decide ((k : Int) ∈ L3) = (p != r) from fun k hk =>
    ⟨Tree.bel T A k, Tree.bel T B k, Tree.bel T C k, hL1 ▸ mem_pathI (by rw [HTL.out]; exact hk), hL2 ▸ mem_pathI (by rw [HTL.out]; exact hk), hL3 ▸ mem_pathI (by rw [HTL.out]; exact hk)⟩)
  have HAB := Lib.hid (show A = B → n1 = 0 from fun e => by subst e; rw [path_nil] at hL1; subst hL1; exact hn1.symm)
  clear h h64 hN hT node ha hb hc hL1 hL2 hL3 hn1 hn2 hn3 hA hB hC
  go_enter Try.func3, Try.ntmps3
  go_wp2_with (first
    | (go_at_call 9; (with_reducible refine K0.out.mono ?_); rintro e w1 ⟨tp, tc, rfl, ht, hb1⟩; have HT := Lib.hid ht; have HB1 := Lib.hid hb1; clear ht hb1)
    | (go_at_call 10; (with_reducible refine (KA _).out.mono ?_); rintro e wx ⟨rfl, rfl⟩)
    | (go_at_call 10; (with_reducible refine (KB _).out.mono ?_); rintro e wx ⟨rfl, rfl⟩)
    | (go_at_call 10; (with_reducible refine (KC _).out.mono ?_); rintro e wx ⟨rfl, rfl⟩)
    | (go_at_call 11; (with_reducible refine (P1 _ _ HT.out).out.mono ?_); rintro e w2 ⟨ap, ac, rfl, h1, hb2⟩; have H1 := Lib.hid h1; have HT2 := Lib.hid (HT.out.keep hb2); have HB2 := Lib.hid (HB1.out.trans (hb2.mono HB1.out.size)); clear h1 hb2)
    | (go_at_call 11; (with_reducible refine (P2 _ _ HT2.out).out.mono ?_); rintro e w3 ⟨bp, bc, rfl, h1, hb2⟩; have H2 := Lib.hid h1; have H12 := Lib.hid (H1.out.keep hb2); have HT3 := Lib.hid (HT2.out.keep hb2); have HB3 := Lib.hid (HB2.out.trans (hb2.mono HB2.out.size)); clear h1 hb2)
    | (go_at_call 11; (with_reducible refine (P3 _ _ HT3.out).out.mono ?_); rintro e w4 ⟨cp, cc, rfl, h1, hb2⟩; have H3 := Lib.hid h1; have H23 := Lib.hid (H2.out.keep hb2); have H13 := Lib.hid (H12.out.keep hb2); have HT4 := Lib.hid (HT3.out.keep hb2); have HB4 := Lib.hid (HB3.out.trans (hb2.mono HB3.out.size)); clear h1 hb2)
    | (go_at_call 11; (with_reducible refine (P4 _ _ HT4.out).out.mono ?_); rintro e w5 ⟨dp, dc, rfl, h1, hb2⟩; have H4 := Lib.hid h1; have H34 := Lib.hid (H3.out.keep hb2); have H24 := Lib.hid (H23.out.keep hb2); have H14 := Lib.hid (H13.out.keep hb2); have HB5 := Lib.hid (HB4.out.trans (hb2.mono HB4.out.size)); clear h1 hb2)
    | (go_at_call 12; (with_reducible refine (same_as H14.out H24.out).mono ?_); rintro e w6 ⟨rfl, hb2⟩; have H45 := Lib.hid (H4.out.keep hb2); have H35 := Lib.hid (H34.out.keep hb2); have H15 := Lib.hid (H14.out.keep hb2); have HB6 := Lib.hid (HB5.out.trans (hb2.mono HB5.out.size)); clear hb2))
  clear K0 KA KB KC P1 P2 P3 P4 HT HT2 HT3 HT4 H1 H2 H12 H3 H23 H13 H4 H34 H24 H14
  go_loop [18] (fun s => ∃ k : Nat, 1 ≤ k ∧ k ≤ N + 1 ∧ s = .int .i64 k) (fun s => N + 1 - (intOf s).toNat)
  case atStart => exact ⟨1, by omega, by omega, rfl⟩
  case round =>
    obtain ⟨k, hk1, hk, rfl⟩ := hrel
    by_cases hkn : k < N + 1
    · obtain ⟨p, q, r, m1, m2, m3⟩ := HM.out k hkn
      have M1 := Lib.hid m1
      have M2 := Lib.hid m2
      have M3 := Lib.hid m3
      clear m1 m2 m3
      have hkn2 : (k : Int) < (N : Int) + 1 := by omega
      cases p <;> cases q <;> cases r
      all_goals
        go_wp2_with (first
          | (go_at_call 13; (with_reducible refine (in_as H45.out M3.out).mono ?_); rintro e wx ⟨rfl, rfl⟩)
          | (go_at_call 13; (with_reducible refine (in_as H15.out M1.out).mono ?_); rintro e wx ⟨rfl, rfl⟩)
          | (go_at_call 13; (with_reducible refine (in_as H35.out M2.out).mono ?_); rintro e wx ⟨rfl, rfl⟩))
        go_round
        case rel => exact ⟨k + 1, by omega, by omega, by go_num⟩
        case measure => simp [intOf]; omega
    · obtain rfl : k = N + 1 := by omega
      by_cases hAB : A = B
      · have hn0 := HAB.out hAB
        subst hAB
        subst hn0
        go_wp2_with (first
          | (go_at_call 14; (with_reducible refine (awake_any _).mono ?_); rintro e w7 ⟨rfl, hb2⟩; have HB7 := Lib.hid (HB6.out.trans (hb2.mono HB6.out.size)); clear hb2))
        go_ret
        exact ⟨rfl, HB7.out⟩
      · have hAB2 : ((A : Int) != (B : Int)) = true := by simp; omega
        clear hAB
        go_wp2_with (first
          | (go_at_call 14; (with_reducible refine (awake_any _).mono ?_); rintro e w7 ⟨rfl, hb2⟩; have HB7 := Lib.hid (HB6.out.trans (hb2.mono HB6.out.size)); clear hb2))
        go_ret
        exact ⟨rfl, HB7.out⟩
end Go.Proofs.Ytkjamafpohnflaa
