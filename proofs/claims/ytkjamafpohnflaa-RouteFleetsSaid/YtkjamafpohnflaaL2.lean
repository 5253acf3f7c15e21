/- The walk of RouteClimbs. -/
import Derived.Test.YtkjamafpohnflaaL1
set_option linter.unusedVariables false
set_option linter.unusedSimpArgs false
set_option linter.unnecessarySimpa false
namespace Tree
theorem filter_one {p q : Nat → Bool} {x : Nat} (hp : ∀ i, p i = (x == i || q i)) (hq : q x = false) : ∀ n, ((List.range n).filter p).length = ((List.range n).filter q).length + (if x < n then 1 else 0)
  | 0 => rfl
  | n + 1 => by
    rw [List.range_succ, List.filter_append, List.filter_append, List.length_append, List.length_append, filter_one hp hq n]
    by_cases e : x = n
    · subst e
      have h1 : p x = true := by rw [hp]; simp
      simp [h1, hq]
    · have h1 : p n = q n := by
        rw [hp]
        have : (x == n) = false := by simpa using e
        rw [this]; rfl
      have h2 : (if x < n then 1 else 0) = (if x < n + 1 then 1 else 0) := by
        by_cases h : x < n
        · rw [if_pos h, if_pos (by omega)]
        · rw [if_neg h, if_neg (by omega)]
      rw [← h2]
      simp only [List.filter_cons, List.filter_nil, h1]
      omega
theorem filter_or {p q r : Nat → Bool} : ∀ n, (∀ i, i < n → p i = (q i || r i)) → (∀ i, i < n → (q i && r i) = false) → ((List.range n).filter p).length = ((List.range n).filter q).length + ((List.range n).filter r).length
  | 0, _, _ => rfl
  | n + 1, hp, hd => by
    rw [List.range_succ, List.filter_append, List.filter_append, List.filter_append, List.length_append, List.length_append, List.length_append, filter_or n (fun i h => hp i (by omega)) (fun i h => hd i (by omega))]
    have h1 := hp n (by omega)
    have h2 := hd n (by omega)
    have h3 : (List.filter p [n]).length = (List.filter q [n]).length + (List.filter r [n]).length := by
      cases hq : q n <;> cases hr : r n <;> simp [hq, hr] at h1 h2 <;> simp [hq, hr, h1]
    omega
variable {l : List Int}
/-- how many links lead from x up to m -/
def dist (l : List Int) (x m : Nat) : Nat := ((List.range l.length).filter fun i => bel l x i && !bel l m i).length
theorem dist_self (l : List Int) (m : Nat) : dist l m m = 0 := by
  unfold dist
  simp
theorem dist_step (h : Ok l) {x m : Nat} (hx : x < l.length) (hm : bel l x m = true) (hne : x ≠ m) : dist l x m = dist l (up l x) m + 1 ∧ bel l (up l x) m = true ∧ 1 ≤ x := by
  have hgt : m < x := by have := bel_ge hm; omega
  have h2 : bel l (up l x) m = true := by rw [← bel_gt h hx hgt]; exact hm
  refine ⟨?_, h2, by omega⟩
  unfold dist
  have hu := (up_lt h (x := x) (by omega) hx).1
  rw [filter_one (x := x) (q := fun i => bel l (up l x) i && !bel l m i) (fun i => ?_) ?_ l.length, if_pos hx]
  · have : bel l (up l x) x = false := bel_lt hu
    simp [this]
  · rw [bel_step h (by omega) hx]
    by_cases e : x = i
    · subst e
      have : bel l m x = false := bel_lt hgt
      simp [this]
    · have : (x == i) = false := by simpa using e
      simp [this]
/-- a meeting point parts a path -/
theorem path_len (h : Ok l) {a b m : Nat} (ha : a < l.length) (hb : b < l.length) (h1 : bel l a m = true) (h2 : bel l b m = true) (h3 : ∀ i, bel l a i = true → bel l b i = true → i ≤ m) : (pathL l a b).length = dist l a m + dist l b m := by
  unfold pathL dist
  have both : ∀ i, (bel l a i && bel l b i) = bel l m i := fun i => by
    rw [Bool.eq_iff_iff, Bool.and_eq_true]
    constructor
    · rintro ⟨q1, q2⟩
      exact bel_line h a ha q1 h1 (h3 i q1 q2)
    · intro q
      exact ⟨bel_trans h a ha h1 q, bel_trans h b hb h2 q⟩
  refine filter_or l.length (fun i _ => ?_) (fun i _ => ?_)
  · have := both i
    cases h5 : bel l a i <;> cases h6 : bel l b i <;> cases h7 : bel l m i <;> rw [h5, h6, h7] at this <;> first | rfl | cases this
  · have := both i
    cases h5 : bel l a i <;> cases h6 : bel l b i <;> cases h7 : bel l m i <;> rw [h5, h6, h7] at this <;> first | rfl | cases this
end Tree
namespace Go.Proofs.Ytkjamafpohnflaa
open Go Go.RowKit Go.Mem

/-- what a law's loops need of the path between two nodes -/
theorem on_path {T : List Int} (ho : Tree.Ok T) {A B m x : Nat} (hA : A < T.length) (hm : IsMeet T A B m) (hx : x < T.length) (hax : Tree.bel T A x = true) (hxm : Tree.bel T x m = true) : decide ((x : Int) ∈ pathI T A B) = decide (x ≠ m) := by
  rw [mem_pathI hx, hax]
  by_cases e : x = m
  · subst e; rw [hm.inB]; simp
  · have : Tree.bel T B x = false := by
      rw [← Bool.not_eq_true]
      intro h
      have h1 := hm.top x hax h
      have h2 := Tree.bel_ge hxm
      omega
    rw [this]; simp [e]


set_option maxRecDepth 20000 in
set_option maxHeartbeats 8000000 in
theorem climbs_law (v : Value) (l : List Int) (a b : Int) (w : World) (h : IntsAt w v l) (h64 : ∀ x ∈ l, In64 x) (ha : In64 a) (hb : In64 b) : Calls Try.prog 4 #[v, .int .i64 a, .int .i64 b] w fun e w' => e = .returned (.bool true) ∧ Below w.heap.size w w' := by
  have K0 := Lib.hid (made_any v l w h h64)
  obtain ⟨N, hN⟩ : ∃ N, min l.length 39 = N := ⟨_, rfl⟩
  rw [hN] at K0
  have hN39 : N ≤ 39 := by omega
  obtain ⟨T, hT⟩ : ∃ T, madeN (fun i => l.getD i 0) N = T := ⟨_, rfl⟩
  rw [hT] at K0
  have HO := Lib.hid (show Tree.Ok T from hT ▸ made_ok _ (by omega))
  have HTL := Lib.hid (show T.length = N + 1 from hT ▸ len_made _ _)
  have node : ∀ q : Int, In64 q → ∃ k : Nat, k < N + 1 ∧ ∀ w, Hid (Calls Try.prog 10 #[.int .i64 q, .int .i64 ((N : Int) + 1)] w fun e w' => e = .returned (.int .i64 (k : Int)) ∧ w = w') := fun q hq => by
    have h3 := Int.emod_nonneg q (b := (N : Int) + 1) (by omega)
    have h4 := Int.emod_lt_of_pos q (b := (N : Int) + 1) (by omega)
    obtain ⟨k, hk⟩ : ∃ k : Nat, q % ((N : Int) + 1) = k := ⟨(q % ((N : Int) + 1)).toNat, by omega⟩
    exact ⟨k, by omega, fun w => hk ▸ within_any q ((N : Int) + 1) w (by omega) (by omega) hq.1 hq.2⟩
  obtain ⟨A, hA, KA⟩ := node a ha
  obtain ⟨B, hB, KB⟩ := node b hb
  have hA' : A < T.length := by rw [HTL.out]; exact hA
  have hB' : B < T.length := by rw [HTL.out]; exact hB
  obtain ⟨m, hm⟩ := meet_ex HO.out hA' hB'
  have hplen := Tree.path_len HO.out hA' hB' hm.inA hm.inB hm.top
  obtain ⟨L1, hL1⟩ : ∃ L, pathI T A B = L := ⟨_, rfl⟩
  have hlen1 : L1.length = (Tree.pathL T A B).length := by rw [← hL1]; simp [pathI]
  obtain ⟨n1, hn1⟩ : ∃ n, L1.length = n := ⟨_, rfl⟩
  have Hn1 := Lib.hid (show n1 ≤ 100 by
    have := List.length_filter_le (fun i => Tree.bel T A i != Tree.bel T B i) (List.range T.length)
    rw [List.length_range] at this
    have e : (Tree.pathL T A B).length ≤ T.length := this
    have := HTL.out
    omega)
  have P1 := fun w (u : Value) (h : IntsAt w u T) => Lib.hid (Path_as w h HO.out hA' hB' hL1 hn1)
  have P2 := fun w (u : Value) (h : IntsAt w u T) => Lib.hid (meet_ok u T A B m w h HO.out hA' hB' hm)
  have KBA := fun w (u : Value) (h : IntsAt w u T) => Lib.hid (show Calls Try.prog 16 #[u, .int .i64 A, .int .i64 m] w (fun e w' => e = .returned (.bool true) ∧ w = w') from hm.inA ▸ below_any u T A m w h HO.out hA')
  have KBB := fun w (u : Value) (h : IntsAt w u T) => Lib.hid (show Calls Try.prog 16 #[u, .int .i64 B, .int .i64 m] w (fun e w' => e = .returned (.bool true) ∧ w = w') from hm.inB ▸ below_any u T B m w h HO.out hB')
  have HSUM := Lib.hid (show Tree.dist T A m + Tree.dist T B m = n1 by omega)
  have HMM := Lib.hid hm
  have HMBA := Lib.hid (show IsMeet T B A m from ⟨hm.inB, hm.inA, fun i h1 h2 => hm.top i h2 h1⟩)
  have HL1 := Lib.hid hL1
  have HAN := Lib.hid hA
  have HBN := Lib.hid hB
  have hmA : m ≤ 40 := by have := Tree.bel_ge hm.inA; omega
  clear h h64 hN hT node ha hb hL1 hn1 hlen1 hplen hm hA' hB' hA hB
  go_enter Try.func4, Try.ntmps4
  go_wp2_with (first
    | (go_at_call 9; (with_reducible refine K0.out.mono ?_); rintro e w1 ⟨tp, tc, rfl, ht, hb1⟩; have HT := Lib.hid ht; have HB1 := Lib.hid hb1; clear ht hb1)
    | (go_at_call 10; (with_reducible refine (KA _).out.mono ?_); rintro e wx ⟨rfl, rfl⟩)
    | (go_at_call 10; (with_reducible refine (KB _).out.mono ?_); rintro e wx ⟨rfl, rfl⟩)
    | (go_at_call 11; (with_reducible refine (P1 _ _ HT.out).out.mono ?_); rintro e w2 ⟨ap, ac, rfl, h1, hb2⟩; have H1 := Lib.hid h1; have HT2 := Lib.hid (HT.out.keep hb2); have HB2 := Lib.hid (HB1.out.trans (hb2.mono HB1.out.size)); clear h1 hb2)
    | (go_at_call 15; (with_reducible refine (P2 _ _ HT2.out).out.mono ?_); rintro e w3 ⟨rfl, hb2⟩; have H13 := Lib.hid (H1.out.keep hb2); have HT3 := Lib.hid (HT2.out.keep hb2); have HB3 := Lib.hid (HB2.out.trans (hb2.mono HB2.out.size)); clear hb2))
  clear K0 KA KB P1 P2 HT HT2 H1
  go_loop [12, 13] (fun s t => ∃ (q x : Nat), s = .int .i64 q ∧ t = .int .i64 x ∧ x < N + 1 ∧ q ≤ 200 ∧ Hid (Tree.bel T A x = true ∧ Tree.bel T x m = true ∧ q + Tree.dist T x m = Tree.dist T A m)) (fun _ t => (intOf t).toNat)
  case atStart => exact ⟨0, A, rfl, rfl, HAN.out, by omega, Tree.bel_self _ _, HMM.out.inA, by omega⟩
  case round =>
    obtain ⟨q, x, rfl, rfl, hxN, hq, HX⟩ := hrel
    have HI := Lib.hid (on_path HO.out (by rw [HTL.out]; exact HAN.out) HMM.out (by rw [HTL.out]; exact hxN) HX.out.1 HX.out.2.1)
    by_cases hxm : x = m
    · obtain rfl : m = x := hxm.symm
      have HIN := Lib.hid (show decide ((m : Int) ∈ L1) = false by rw [← HL1.out, HI.out]; simp)
      have HST := Lib.hid (show Tree.bel T B B = true ∧ Tree.bel T B m = true ∧ q + Tree.dist T B m = n1 from ⟨Tree.bel_self _ _, HMM.out.inB, by have := HX.out.2.2; rw [Tree.dist_self] at this; have := HSUM.out; omega⟩)
      clear HI
      go_wp2_with (first
        | (go_at_call 13; (with_reducible refine (in_as H13.out HIN.out).mono ?_); rintro e wx ⟨rfl, rfl⟩))
      (
        go_loop [12, 14] (fun s t => ∃ (q x : Nat), s = .int .i64 q ∧ t = .int .i64 x ∧ x < N + 1 ∧ q ≤ 200 ∧ Hid (Tree.bel T B x = true ∧ Tree.bel T x m = true ∧ q + Tree.dist T x m = n1)) (fun _ t => (intOf t).toNat)
        case atStart => exact ⟨_, B, rfl, rfl, HBN.out, by omega, HST⟩
        case round =>
          obtain ⟨q, x, rfl, rfl, hxN, hq, HX⟩ := hrel
          have HI := Lib.hid (on_path HO.out (by rw [HTL.out]; exact HBN.out) HMBA.out (by rw [HTL.out]; exact hxN) HX.out.1 HX.out.2.1)
          have HI2 := Lib.hid (path_sym T A B ▸ HI.out)
          clear HI
          by_cases hxm : x = m
          · obtain rfl : m = x := hxm.symm
            have HQ := Lib.hid (show q = n1 by have := HX.out.2.2; rw [Tree.dist_self] at this; exact this)
            obtain rfl := HQ.out
            go_wp2_with (first
              | (go_at_call 14; (with_reducible refine (awake_any _).mono ?_); rintro e w7 ⟨rfl, hb7⟩; have HT7 := Lib.hid (HT3.out.keep hb7); have HB7 := Lib.hid (HB3.out.trans (hb7.mono HB3.out.size)); clear hb7)
              | (go_at_call 16; (with_reducible refine (KBA _ _ HT7.out).out.mono ?_); rintro e wx ⟨rfl, rfl⟩)
              | (go_at_call 16; (with_reducible refine (KBB _ _ HT7.out).out.mono ?_); rintro e wx ⟨rfl, rfl⟩))
            go_ret
            exact ⟨rfl, HB7.out⟩
          · have hstep := Tree.dist_step HO.out (by rw [HTL.out]; exact hxN) HX.out.2.1 hxm
            obtain ⟨b2, off2, e2, hb2, ck⟩ := HT3.out.cell (i := x) (by rw [HTL.out]; exact hxN)
            cases e2
            have hu := Tree.up_lt HO.out (x := x) hstep.2.2 (by rw [HTL.out]; exact hxN)
            obtain ⟨y, hy⟩ : ∃ y, Tree.up T x = y := ⟨_, rfl⟩
            rw [hu.2, hy] at ck
            have hyx : y < x := by have := hu.1; omega
            have hq2 : q + 1 ≤ 200 := by have := HX.out.2.2; have := Hn1.out; omega
            have HX2 := Lib.hid (show Tree.bel T B y = true ∧ Tree.bel T y m = true ∧ q + 1 + Tree.dist T y m = n1 from
              ⟨Tree.bel_trans HO.out B (by rw [HTL.out]; exact HBN.out) HX.out.1 (by rw [← hy, Tree.bel_step HO.out hstep.2.2 (by rw [HTL.out]; exact hxN), Tree.bel_self]; simp), hy ▸ hstep.2.1, by have := hstep.1; rw [hy] at this; have := HX.out.2.2; omega⟩)
            have HIN := Lib.hid (show decide ((x : Int) ∈ L1) = true by rw [← HL1.out, HI2.out]; simpa using hxm)
            have hx1 : 1 ≤ x := hstep.2.2
            have hxm2 : ((x : Int) != (m : Int)) = true := by simp; omega
            clear hstep hu hy hxm HI2
            go_wp2_with (first
              | (go_at_call 13; (with_reducible refine (in_as H13.out HIN.out).mono ?_); rintro e wx ⟨rfl, rfl⟩))
            go_round
            case rel => exact ⟨q + 1, y, by go_num, rfl, by omega, hq2, HX2⟩
            case measure => simp [intOf]; omega)
    · have hstep := Tree.dist_step HO.out (by rw [HTL.out]; exact hxN) HX.out.2.1 hxm
      obtain ⟨b, off, rfl, hb, ck⟩ := HT3.out.cell (i := x) (by rw [HTL.out]; exact hxN)
      have hu := Tree.up_lt HO.out (x := x) hstep.2.2 (by rw [HTL.out]; exact hxN)
      obtain ⟨y, hy⟩ : ∃ y, Tree.up T x = y := ⟨_, rfl⟩
      rw [hu.2, hy] at ck
      have hyx : y < x := by have := hu.1; omega
      have hq2 : q + 1 ≤ 200 := by have := HX.out.2.2; have := Hn1.out; have := HSUM.out; omega
      have HX2 := Lib.hid (show Tree.bel T A y = true ∧ Tree.bel T y m = true ∧ q + 1 + Tree.dist T y m = Tree.dist T A m from
        ⟨Tree.bel_trans HO.out A (by rw [HTL.out]; exact HAN.out) HX.out.1 (by rw [← hy, Tree.bel_step HO.out hstep.2.2 (by rw [HTL.out]; exact hxN), Tree.bel_self]; simp), hy ▸ hstep.2.1, by have := hstep.1; rw [hy] at this; have := HX.out.2.2; omega⟩)
      have HIN := Lib.hid (show decide ((x : Int) ∈ L1) = true by rw [← HL1.out, HI.out]; simpa using hxm)
      have hx1 : 1 ≤ x := hstep.2.2
      clear hstep hu hy hxm HI
      by_cases hym : y = m
      · obtain rfl : m = y := hym.symm
        have HST := Lib.hid (show Tree.bel T B B = true ∧ Tree.bel T B m = true ∧ q + 1 + Tree.dist T B m = n1 from ⟨Tree.bel_self _ _, HMM.out.inB, by have := HX2.out.2.2; rw [Tree.dist_self] at this; have := HSUM.out; omega⟩)
        go_wp2_with (first
          | (go_at_call 13; (with_reducible refine (in_as H13.out HIN.out).mono ?_); rintro e wx ⟨rfl, rfl⟩))
        (
          go_loop [12, 14] (fun s t => ∃ (q x : Nat), s = .int .i64 q ∧ t = .int .i64 x ∧ x < N + 1 ∧ q ≤ 200 ∧ Hid (Tree.bel T B x = true ∧ Tree.bel T x m = true ∧ q + Tree.dist T x m = n1)) (fun _ t => (intOf t).toNat)
          case atStart => exact ⟨_, B, rfl, rfl, HBN.out, by omega, HST⟩
          case round =>
            obtain ⟨q, x, rfl, rfl, hxN, hq, HX⟩ := hrel
            have HI := Lib.hid (on_path HO.out (by rw [HTL.out]; exact HBN.out) HMBA.out (by rw [HTL.out]; exact hxN) HX.out.1 HX.out.2.1)
            have HI2 := Lib.hid (path_sym T A B ▸ HI.out)
            clear HI
            by_cases hxm : x = m
            · obtain rfl : m = x := hxm.symm
              have HQ := Lib.hid (show q = n1 by have := HX.out.2.2; rw [Tree.dist_self] at this; exact this)
              obtain rfl := HQ.out
              go_wp2_with (first
                | (go_at_call 14; (with_reducible refine (awake_any _).mono ?_); rintro e w7 ⟨rfl, hb7⟩; have HT7 := Lib.hid (HT3.out.keep hb7); have HB7 := Lib.hid (HB3.out.trans (hb7.mono HB3.out.size)); clear hb7)
                | (go_at_call 16; (with_reducible refine (KBA _ _ HT7.out).out.mono ?_); rintro e wx ⟨rfl, rfl⟩)
                | (go_at_call 16; (with_reducible refine (KBB _ _ HT7.out).out.mono ?_); rintro e wx ⟨rfl, rfl⟩))
              go_ret
              exact ⟨rfl, HB7.out⟩
            · have hstep := Tree.dist_step HO.out (by rw [HTL.out]; exact hxN) HX.out.2.1 hxm
              obtain ⟨b2, off2, e2, hb2, ck⟩ := HT3.out.cell (i := x) (by rw [HTL.out]; exact hxN)
              cases e2
              have hu := Tree.up_lt HO.out (x := x) hstep.2.2 (by rw [HTL.out]; exact hxN)
              obtain ⟨y, hy⟩ : ∃ y, Tree.up T x = y := ⟨_, rfl⟩
              rw [hu.2, hy] at ck
              have hyx : y < x := by have := hu.1; omega
              have hq2 : q + 1 ≤ 200 := by have := HX.out.2.2; have := Hn1.out; omega
              have HX2 := Lib.hid (show Tree.bel T B y = true ∧ Tree.bel T y m = true ∧ q + 1 + Tree.dist T y m = n1 from
                ⟨Tree.bel_trans HO.out B (by rw [HTL.out]; exact HBN.out) HX.out.1 (by rw [← hy, Tree.bel_step HO.out hstep.2.2 (by rw [HTL.out]; exact hxN), Tree.bel_self]; simp), hy ▸ hstep.2.1, by have := hstep.1; rw [hy] at this; have := HX.out.2.2; omega⟩)
              have HIN := Lib.hid (show decide ((x : Int) ∈ L1) = true by rw [← HL1.out, HI2.out]; simpa using hxm)
              have hx1 : 1 ≤ x := hstep.2.2
              have hxm2 : ((x : Int) != (m : Int)) = true := by simp; omega
              clear hstep hu hy hxm HI2
              go_wp2_with (first
                | (go_at_call 13; (with_reducible refine (in_as H13.out HIN.out).mono ?_); rintro e wx ⟨rfl, rfl⟩))
              go_round
              case rel => exact ⟨q + 1, y, by go_num, rfl, by omega, hq2, HX2⟩
              case measure => simp [intOf]; omega)
      · have hym2 : ((y : Int) == (m : Int)) = false := by simp; omega
        clear hym
        go_wp2_with (first
          | (go_at_call 13; (with_reducible refine (in_as H13.out HIN.out).mono ?_); rintro e wx ⟨rfl, rfl⟩))
        go_round
        case rel => exact ⟨q + 1, y, by go_num, rfl, by omega, hq2, HX2⟩
        case measure => simp [intOf]; omega
end Go.Proofs.Ytkjamafpohnflaa
