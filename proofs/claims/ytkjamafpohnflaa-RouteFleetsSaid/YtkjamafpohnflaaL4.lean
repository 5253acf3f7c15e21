/- The walk of RouteLoads. -/
import Derived.Test.YtkjamafpohnflaaW8
set_option linter.unusedVariables false
set_option linter.unusedSimpArgs false
set_option linter.unnecessarySimpa false
namespace Go.Proofs.Ytkjamafpohnflaa
open Go Go.RowKit Go.Mem Go.Deep

theorem pathS_sym (T : List Int) (a b : Nat) (z : Int) : pathS T a b z = pathS T b a z := by
  unfold pathS; cases belZ T a z <;> cases belZ T b z <;> rfl
theorem ldTo_app (T : List Int) (P Q : List (Int × Int)) (j : Nat) : ∀ k, ldTo T (P ++ Q) (P.length + k) j = ldTo T P P.length j + ldTo T Q k j := by
  have h1 : ∀ k, k ≤ P.length → ldTo T (P ++ Q) k j = ldTo T P k j := by
    intro k
    induction k with
    | zero => intro _; rfl
    | succ k ih =>
      intro hk
      unfold ldTo
      rw [ih (by omega)]
      have e : (P ++ Q).getD k (0, 0) = P.getD k (0, 0) := by
        rw [List.getD_eq_getElem?_getD, List.getElem?_append_left (by omega), ← List.getD_eq_getElem?_getD]
      rw [e]
  intro k
  induction k with
  | zero => rw [Nat.add_zero, h1 _ (Nat.le_refl _)]; rfl
  | succ k ih =>
    rw [← Nat.add_assoc]
    show ldTo T (P ++ Q) (P.length + k) j + _ = ldTo T P P.length j + (ldTo T Q k j + _)
    rw [ih]
    have e : (P ++ Q).getD (P.length + k) (0, 0) = Q.getD k (0, 0) := by
      rw [List.getD_eq_getElem?_getD, List.getElem?_append_right (by omega), Nat.add_sub_cancel_left, ← List.getD_eq_getElem?_getD]
    rw [e]
    omega
/-- the nodes, and the pairs with one node, of the first k numbers -/
def ndL (f : Nat → Int) (n k : Nat) : List Int := (List.range k).map fun i => f i % (n : Int)
def prL (f : Nat → Int) (n A k : Nat) : List (Int × Int) := (List.range k).map fun i => ((A : Int), f i % (n : Int))
def prR (f : Nat → Int) (n A k : Nat) : List (Int × Int) := (List.range k).map fun i => (f i % (n : Int), (A : Int))
theorem ndL_succ (f : Nat → Int) (n k : Nat) : ndL f n (k + 1) = ndL f n k ++ [f k % (n : Int)] := by simp [ndL, List.range_succ]
theorem prL_succ (f : Nat → Int) (n A k : Nat) : prL f n A (k + 1) = prL f n A k ++ [((A : Int), f k % (n : Int))] := by simp [prL, List.range_succ]
theorem prR_succ (f : Nat → Int) (n A k : Nat) : prR f n A (k + 1) = prR f n A k ++ [(f k % (n : Int), (A : Int))] := by simp [prR, List.range_succ]
theorem len_ndL (f : Nat → Int) (n k : Nat) : (ndL f n k).length = k := by simp [ndL]
theorem len_prL (f : Nat → Int) (n A k : Nat) : (prL f n A k).length = k := by simp [prL]
theorem len_prR (f : Nat → Int) (n A k : Nat) : (prR f n A k).length = k := by simp [prR]
theorem ndL_get {f : Nat → Int} {n k i : Nat} (h : i < k) : (ndL f n k).getD i 0 = f i % (n : Int) := by
  unfold ndL; rw [List.getD_eq_getElem?_getD, List.getElem?_map, List.getElem?_range h]; rfl
theorem prL_get {f : Nat → Int} {n A k i : Nat} (h : i < k) : (prL f n A k).getD i (0, 0) = ((A : Int), f i % (n : Int)) := by
  unfold prL; rw [List.getD_eq_getElem?_getD, List.getElem?_map, List.getElem?_range h]; rfl
theorem ldTo_succ (T : List Int) (ps : List (Int × Int)) (k j : Nat) : ldTo T ps (k + 1) j = ldTo T ps k j + if pathS T (ps.getD k (0, 0)).1.toNat (ps.getD k (0, 0)).2.toNat j then 1 else 0 := rfl
theorem ld_un (T : List Int) (f : Nat → Int) (n A j m : Nat) : ∀ k, k ≤ m → decide (0 < ldTo T (prL f n A m) k j) = unS T A (ndL f n m) k j
  | 0, _ => by rw [unS_zero]; rfl
  | k + 1, h => by
    have ih := ld_un T f n A j m k (by omega)
    rw [unS_succ]
    show _ = (unS T A (ndL f n m) k j || _)
    rw [← ih]
    rw [ldTo_succ, prL_get (by omega), ndL_get (by omega)]
    show decide (0 < _ + if pathS T ((A : Int).toNat) (f k % (n : Int)).toNat j = true then 1 else 0) = _
    rw [show ((A : Int).toNat) = A from rfl, pathS_sym T A]
    cases pathS T (f k % (n : Int)).toNat A j <;> simp
theorem mem_union {T : List Int} {t : Nat} {ns : List Int} {j : Nat} (h : j < T.length) : decide ((j : Int) ∈ unionL T t ns) = unS T t ns ns.length j := by
  rw [Bool.eq_iff_iff, decide_eq_true_eq]
  unfold unionL
  rw [List.mem_map]
  constructor
  · rintro ⟨i, hi, e⟩
    have : i = j := by omega
    subst this
    exact (List.mem_filter.1 hi).2
  · intro hu
    exact ⟨j, List.mem_filter.2 ⟨List.mem_range.2 h, hu⟩, rfl⟩

/-- append of one pair to a slice of the call's own -/
theorem wpList_pair {w0 W : World} {ops : Array Oper} {rest : List Oper} {o : Oper} {a : Act} {Q : Exit → Act → World → Prop} {v : Value} {n m : Nat} {xs ys : List Value} (s x : Operand) (hg : o.guard = none)
    (ho : o.op = .call { callee := .builtin .append, args := #[s, x], argTypes := #[45, 45] }) (hs : a.eval s = v) {xv : Value} (hx : a.eval x = xv) (h : AS w0 47 2 v n xs [] W) (hsrc : Src W xv 2 m ys) (hn : n + m ≤ 10000)
    (hK : ∀ p cap w', Hid (AS w0 47 2 (.slice p (n + m) cap) (n + m) (xs ++ ys) [] w') → wpList Try.prog ops Q rest (a.put o.dst (.slice p (n + m) cap)) w') : wpList Try.prog ops Q (o :: rest) a W :=
  wpList_app elt45 s x hg ho hs hx h hsrc hn fun u w' hu => by
    obtain ⟨p, cap, rfl⟩ := owns_val hu.out.row
    exact hK p cap w' hu

/-- the slices that a world holds -/
structure Ld (tv pv qv nv : Value) (T : List Int) (P Q : List (Int × Int)) (N : List Int) (w : World) : Prop where
  t : IntsAt w tv T
  p : PairsAt w pv P
  q : PairsAt w qv Q
  nd : IntsAt w nv N
theorem Ld.keep {tv pv qv nv : Value} {T : List Int} {P Q : List (Int × Int)} {N : List Int} {w w' : World} (h : Ld tv pv qv nv T P Q N w) (hb : Below w.heap.size w w') : Ld tv pv qv nv T P Q N w' := ⟨h.t.keep hb, h.p.keep hb, h.q.keep hb, h.nd.keep hb⟩
/-- the four results -/
structure Rs (av bv cv uv : Value) (a b c u : List Int) (w : World) : Prop where
  a : IntsAt w av a
  b : IntsAt w bv b
  c : IntsAt w cv c
  u : IntsAt w uv u
theorem Rs.keep {av bv cv uv : Value} {a b c u : List Int} {w w' : World} (h : Rs av bv cv uv a b c u w) (hb : Below w.heap.size w w') : Rs av bv cv uv a b c u w' := ⟨h.a.keep hb, h.b.keep hb, h.c.keep hb, h.u.keep hb⟩

set_option maxRecDepth 20000 in
set_option maxHeartbeats 8000000 in
theorem loads_law (v v2 v3 : Value) (l l2 l3 : List Int) (c : Int) (w : World) (h : IntsAt w v l) (h2 : IntsAt w v2 l2) (h3 : IntsAt w v3 l3) (h64 : ∀ x ∈ l, In64 x) (hc : In64 c) (h642 : ∀ x ∈ l2, In64 x) (h643 : ∀ x ∈ l3, In64 x) :
    Calls Try.prog 8 #[v, .int .i64 c, v2, v3] w fun e w' => e = .returned (.bool true) ∧ Below w.heap.size w w' := by
  obtain ⟨a2, cap2, rfl, hlen2⟩ := h2.open
  obtain ⟨a3, cap3, rfl, hlen3⟩ := h3.open
  obtain ⟨m, hm⟩ : ∃ m, l2.length = m := ⟨_, rfl⟩
  obtain ⟨m3, hm3⟩ : ∃ m, l3.length = m := ⟨_, rfl⟩
  have HM := Lib.hid hm
  have HM3 := Lib.hid hm3
  rw [hm] at hlen2 h2
  rw [hm3] at hlen3 h3
  rw [hm, hm3]
  clear hm hm3
  by_cases hg : 20 < m ∨ 20 < m3
  · have hg' : decide ((20 : Int) < (m : Int)) = true ∨ (decide ((20 : Int) < (m : Int)) = false ∧ decide ((20 : Int) < (m3 : Int)) = true) := by
      by_cases q : 20 < m
      · left; simp; omega
      · right; constructor <;> (simp; omega)
    clear hg h h2 h3 h64 hc h642 h643
    rcases hg' with q | ⟨q, q2⟩
    all_goals
      go_enter Try.func8, Try.ntmps8
      go_wp2_with (first
        | (go_at_call 14; (with_reducible refine (awake_any _).mono ?_); rintro e w7 ⟨rfl, hb7⟩; have HB7 := Lib.hid hb7; clear hb7))
      go_ret
      exact ⟨rfl, HB7.out⟩
  have q1 : decide ((20 : Int) < (m : Int)) = false := by simp; omega
  have q2 : decide ((20 : Int) < (m3 : Int)) = false := by simp; omega
  have hm20 : m ≤ 20 := by omega
  have hm320 : m3 ≤ 20 := by omega
  obtain ⟨T, n, ho, hTL, hn40, hn1, k0⟩ := made_as v l w h h64
  have K0 := Lib.hid k0
  have HO := Lib.hid ho
  have HTL := Lib.hid hTL
  obtain ⟨A, hA, KA⟩ := node_as hn1 (by omega) c hc
  have H2 := Lib.hid h2
  have H3 := Lib.hid h3
  obtain ⟨f, hf⟩ : ∃ f : Nat → Int, (fun i => l2.getD i 0) = f := ⟨_, rfl⟩
  obtain ⟨f3, hf3⟩ : ∃ f : Nat → Int, (fun i => l3.getD i 0) = f := ⟨_, rfl⟩
  have HF := Lib.hid (fun i => show l2.getD i 0 = f i from congrFun hf i)
  have HF3 := Lib.hid (fun i => show l3.getD i 0 = f3 i from congrFun hf3 i)
  have HW := Lib.hid (show ∀ i, i < m → In64 (f i) from fun i hi => by rw [← HF.out]; exact h642 _ (getD_mem (by rw [HM.out]; exact hi)))
  have HW3 := Lib.hid (show ∀ i, i < m3 → In64 (f3 i) from fun i hi => by rw [← HF3.out]; exact h643 _ (getD_mem (by rw [HM3.out]; exact hi)))
  have node : Hid (∀ q : Int, In64 q → ∃ k : Nat, k < n ∧ q % (n : Int) = k ∧ ∀ w, Hid (Calls Try.prog 10 #[.int .i64 q, .int .i64 (n : Int)] w fun e w' => e = .returned (.int .i64 (k : Int)) ∧ w = w')) := Lib.hid fun q hq => by
    have h3 := Int.emod_nonneg q (b := (n : Int)) (by omega)
    have h4 := Int.emod_lt_of_pos q (b := (n : Int)) (by omega)
    obtain ⟨k, hk⟩ : ∃ k : Nat, q % (n : Int) = k := ⟨(q % (n : Int)).toNat, by omega⟩
    exact ⟨k, by omega, hk, fun w => hk ▸ within_any q (n : Int) w (by omega) (by omega) hq.1 hq.2⟩
  clear hg h h2 h3 h64 h642 h643 hc hf hf3 k0 ho hTL
  go_enter Try.func8, Try.ntmps8
  go_wp2_with (first
    | (go_at_call 9; (with_reducible refine K0.out.mono ?_); rintro e w1 ⟨tp, tc, rfl, ht, hb1⟩; have HT := Lib.hid ht; have HB1 := Lib.hid hb1; clear ht hb1)
    | (go_at_call 10; (with_reducible refine (KA _).out.mono ?_); rintro e wx ⟨rfl, rfl⟩))
  have H21 := Lib.hid (H2.out.keep HB1.out)
  have H31 := Lib.hid (H3.out.keep HB1.out)
  clear K0 KA H2 H3
  go_loopw [10, 12, 13] (fun sp sn s wr => ∃ (k : Nat) (pp np : Option Addr) (pc nc : Nat), sp = .slice pp k pc ∧ sn = .slice np k nc ∧ s = .int .i64 k ∧ k ≤ m ∧ Hid (Two w1 47 2 3 1 (.slice pp k pc) k (prs (prL f n A k)) (.slice np k nc) k (ints (ndL f n k)) wr)) (fun _ _ s _ => m - (intOf s).toNat)
  case atStart => exact ⟨0, none, none, 0, 0, rfl, rfl, rfl, by omega, Two.start w1 47 2 3 1⟩
  case round =>
    rename World => wr
    obtain ⟨k, pp, np, pc, nc, rfl, rfl, rfl, hk, HV⟩ := hrel
    by_cases hkm : k < m
    · obtain ⟨b, off, rfl, hb, ck⟩ := (H21.out.below HV.out.one.below (Nat.le_refl _)).cell (i := k) (by rw [HM.out]; exact hkm)
      obtain ⟨z, hz⟩ : ∃ z, f k = z := ⟨_, rfl⟩
      rw [HF.out, hz] at ck
      obtain ⟨y, hy, hye, KY⟩ := node.out z (hz ▸ HW.out k hkm)
      have HN1 := Lib.hid (show ndL f n (k + 1) = ndL f n k ++ [(y : Int)] by rw [ndL_succ, hz, hye])
      have HN2 := Lib.hid (show prL f n A (k + 1) = prL f n A k ++ [((A : Int), (y : Int))] by rw [prL_succ, hz, hye])
      have HV1 := Lib.hid (HV.out.flip.grow (below_alloc wr (.cells #[.int .i64 (y : Int)] 3)))
      have HS1 := Lib.hid (src_one (w := wr) (b := wr.heap.size) (t := 3) (c := #[.int .i64 (y : Int)]) rfl (by simp [Value.oneCell']))
      clear hz hye
      go_wp2_with (first
        | (go_at_call 10; (with_reducible refine (KY _).out.mono ?_); rintro e wx ⟨rfl, rfl⟩)
        | (at_builtin; refine wpList_two elt22 _ _ rfl rfl rfl rfl HV1.out HS1.out (by omega) (by omega) ?_; intro np2 nc2 w2 HV2; have HI2 := Lib.hid (show IntsAt w2 (.slice np2 (k + 1) nc2) (ndL f n (k + 1)) from ints_of_owns (by rw [len_ndL, HN1.out]; have e := HV2.out.one.row; simpa [ints] using e) (by rw [len_ndL]; omega)); obtain ⟨b5, off5, rfl, hb5, c5⟩ := HI2.out.cell (i := k) (by rw [len_ndL]; omega); rw [HN1.out, show (ndL f n k ++ [(y : Int)]).getD k 0 = (y : Int) by (rw [List.getD_eq_getElem?_getD, List.getElem?_append_right (by rw [len_ndL]; omega), len_ndL, Nat.sub_self]; rfl)] at c5; have HV3 := Lib.hid (HV2.out.flip.grow (below_alloc w2 (.cells #[.int .i64 (A : Int), .int .i64 (y : Int)] 47))); have HS3 := Lib.hid (src_one (w := w2) (b := w2.heap.size) (t := 47) (c := #[.int .i64 (A : Int), .int .i64 (y : Int)]) rfl (by simp [Value.oneCell'])))
        | (at_builtin; refine wpList_two elt45 _ _ rfl rfl rfl rfl HV3.out HS3.out (by omega) (by omega) ?_; intro pp2 pc2 w3 HV4))
      go_roundw
      case rel => exact ⟨k + 1, pp2, _, pc2, nc2, by go_num, by go_num, by go_num, by omega, by rw [HN2.out, HN1.out, prs_app]; simpa [ints, prs] using HV4⟩
      case measure => simp [intOf]; omega
    · obtain rfl : k = m := by omega
      have HPP := Lib.hid (show PairsAt wr (.slice pp k pc) (prL f n A k) from pairs_of_owns (by rw [len_prL]; exact HV.out.one.row) (by rw [len_prL]; omega))
      have HNN := Lib.hid (show IntsAt wr (.slice np k nc) (ndL f n k) from ints_of_owns (by rw [len_ndL]; exact HV.out.two.row) (by rw [len_ndL]; omega))
      have HTT := Lib.hid (HT.out.below HV.out.one.below (Nat.le_refl _))
      have H32 := Lib.hid (H31.out.below HV.out.one.below (Nat.le_refl _))
      have HBR := Lib.hid (HB1.out.trans (HV.out.one.below.mono HB1.out.size))
      clear HV HT H21 H31 HB1 HW
      go_wp2_with fail
      go_loopw [11, 14] (fun sq s wq => ∃ (i : Nat) (qp : Option Addr) (qc : Nat), sq = .slice qp i qc ∧ s = .int .i64 i ∧ i ≤ m3 ∧ Hid (AS wr 47 2 (.slice qp i qc) i (prs (prR f3 n A i)) [] wq)) (fun _ s _ => m3 - (intOf s).toNat)
      case atStart => exact ⟨0, none, 0, rfl, rfl, by omega, AS.start wr 47 2⟩
      case round =>
        rename World => wq
        obtain ⟨i, qp, qc, rfl, rfl, hi, HV⟩ := hrel
        by_cases him : i < m3
        · obtain ⟨b, off, rfl, hb, ck⟩ := (H32.out.below HV.out.below (Nat.le_refl _)).cell (i := i) (by rw [HM3.out]; exact him)
          obtain ⟨z, hz⟩ : ∃ z, f3 i = z := ⟨_, rfl⟩
          rw [HF3.out, hz] at ck
          obtain ⟨y, hy, hye, KY⟩ := node.out z (hz ▸ HW3.out i him)
          have HN2 := Lib.hid (show prR f3 n A (i + 1) = prR f3 n A i ++ [((y : Int), (A : Int))] by rw [prR_succ, hz, hye])
          have HV3 := Lib.hid (HV.out.grow (below_alloc wq (.cells #[.int .i64 (y : Int), .int .i64 (A : Int)] 47)))
          have HS3 := Lib.hid (src_one (w := wq) (b := wq.heap.size) (t := 47) (c := #[.int .i64 (y : Int), .int .i64 (A : Int)]) rfl (by simp [Value.oneCell']))
          clear hz hye
          go_wp2_with (first
            | (go_at_call 10; (with_reducible refine (KY _).out.mono ?_); rintro e wx ⟨rfl, rfl⟩)
            | (at_builtin; refine wpList_pair _ _ rfl rfl rfl rfl HV3.out HS3.out (by omega) ?_; intro pp2 pc2 w3 HV4))
          go_roundw
          case rel => exact ⟨i + 1, pp2, pc2, by go_num, by go_num, by omega, by rw [HN2.out, prs_app]; simpa [prs] using HV4⟩
          case measure => simp [intOf]; omega
        · obtain rfl : i = m3 := by omega
          have HLD := Lib.hid (show Ld (.slice tp n tc) (.slice pp k pc) (.slice qp i qc) (.slice np k nc) T (prL f n A k) (prR f3 n A i) (ndL f n k) wq from
            ⟨HTT.out.below HV.out.below (Nat.le_refl _), HPP.out.below HV.out.below (Nat.le_refl _), pairs_of_owns (by rw [len_prR]; exact HV.out.row) (by rw [len_prR]; omega), HNN.out.below HV.out.below (Nat.le_refl _)⟩)
          have HBQ := Lib.hid (HBR.out.trans (HV.out.below.mono HBR.out.size))
          clear HV HTT HPP HNN H32 HBR HW3 HF3 HM3 HF HM
          have node2 := Lib.hid (show ∀ q : Int, 0 ≤ q % (n : Int) ∧ q % (n : Int) < n from fun q => ⟨Int.emod_nonneg q (by omega), Int.emod_lt_of_pos q (by omega)⟩)
          obtain ⟨P, hP⟩ : ∃ P, prL f n A k = P := ⟨_, rfl⟩
          obtain ⟨Q, hQ⟩ : ∃ P, prR f3 n A i = P := ⟨_, rfl⟩
          obtain ⟨D, hD⟩ : ∃ P, ndL f n k = P := ⟨_, rfl⟩
          have HLP := Lib.hid (show P.length = k from hP ▸ len_prL f n A k)
          have HLQ := Lib.hid (show Q.length = i from hQ ▸ len_prR f3 n A i)
          have HLN := Lib.hid (show D.length = k from hD ▸ len_ndL f n k)
          have HVP := Lib.hid (show ∀ p ∈ P, 0 ≤ p.1 ∧ p.1 < n ∧ 0 ≤ p.2 ∧ p.2 < n from fun p hp => by
            rw [← hP] at hp; obtain ⟨j, _, rfl⟩ := List.mem_map.1 hp; have := node2.out (f j); refine ⟨?_, ?_, this.1, this.2⟩ <;> (dsimp only; omega))
          have HVQ := Lib.hid (show ∀ p ∈ Q, 0 ≤ p.1 ∧ p.1 < n ∧ 0 ≤ p.2 ∧ p.2 < n from fun p hp => by
            rw [← hQ] at hp; obtain ⟨j, _, rfl⟩ := List.mem_map.1 hp; have := node2.out (f3 j); refine ⟨this.1, this.2, ?_, ?_⟩ <;> (dsimp only; omega))
          have HVN := Lib.hid (show ∀ p ∈ D, 0 ≤ p ∧ p < n from fun p hp => by
            rw [← hD] at hp; obtain ⟨j, _, rfl⟩ := List.mem_map.1 hp; exact node2.out (f j))
          have HVC := Lib.hid (show ∀ p ∈ P ++ Q, 0 ≤ p.1 ∧ p.1 < n ∧ 0 ≤ p.2 ∧ p.2 < n from fun p hp => (List.mem_append.1 hp).elim (HVP.out p) (HVQ.out p))
          have HADD := Lib.hid (show ∀ j, ldTo T (P ++ Q) (P ++ Q).length j = ldTo T P P.length j + ldTo T Q Q.length j from fun j => by rw [List.length_append]; exact ldTo_app T P Q j _)
          have HUN := Lib.hid (show ∀ j : Nat, j < n → decide ((j : Int) ∈ unionL T A D) = decide (0 < ldTo T P P.length j) from fun j hj => by
            rw [mem_union (by rw [HTL.out]; exact hj), HLN.out, HLP.out, ← hP, ← hD, ld_un T f n A j k k (Nat.le_refl _)])
          rw [hP, hQ, hD] at HLD
          clear hP hQ hD node node2
          obtain ⟨u, hu⟩ : ∃ u, (unionL T A D).length = u := ⟨_, rfl⟩
          have HU := Lib.hid hu
          clear hu
          have K1 := fun w (h : Ld (.slice tp n tc) (.slice pp k pc) (.slice qp i qc) (.slice np k nc) T P Q D w) => Lib.hid (loads_ok _ _ T P n w h.t h.p HO.out HTL.out HVP.out (by rw [HLP.out]; omega))
          have K2 := fun w (h : Ld (.slice tp n tc) (.slice pp k pc) (.slice qp i qc) (.slice np k nc) T P Q D w) => Lib.hid (loads_ok _ _ T Q n w h.t h.q HO.out HTL.out HVQ.out (by rw [HLQ.out]; omega))
          have K3 := fun w c (h : Ld (.slice tp n tc) (.slice pp k pc) (.slice qp i qc) (.slice np k nc) T P Q D w) (h2 : PairsAt w c (P ++ Q)) => Lib.hid (loads_ok _ _ T (P ++ Q) n w h.t h2 HO.out HTL.out HVC.out (by rw [List.length_append, HLP.out, HLQ.out]; omega))
          have K4 := fun w (h : Ld (.slice tp n tc) (.slice pp k pc) (.slice qp i qc) (.slice np k nc) T P Q D w) => Lib.hid (union_ok _ _ T D A n u w h.t h.nd HO.out HTL.out hA HVN.out (by rw [HLN.out]; omega) HU.out)
          go_wp2_with (first
            | (go_at_call 27; (with_reducible refine (K1 _ HLD.out).out.mono ?_); rintro e w2 ⟨ap, ac, rfl, h1, hb2⟩; have HA1 := Lib.hid h1; have HL1 := Lib.hid (HLD.out.keep hb2); have HB2 := Lib.hid (HBQ.out.trans (hb2.mono HBQ.out.size)); clear h1 hb2)
            | (go_at_call 27; (with_reducible refine (K2 _ HL1.out).out.mono ?_); rintro e w3 ⟨bp, bc, rfl, h1, hb2⟩; have HB21 := Lib.hid h1; have HA2 := Lib.hid (HA1.out.keep hb2); have HL2 := Lib.hid (HL1.out.keep hb2); have HB3 := Lib.hid (HB2.out.trans (hb2.mono HB2.out.size)); clear h1 hb2; have HST := Lib.hid (AS.start w3 47 2); have HSR := Lib.hid (HLP.out ▸ pairs_src HL2.out.p))
            | (at_builtin; refine wpList_pair _ _ rfl rfl rfl rfl HST.out HSR.out (by omega) ?_; intro xp xc w4 HX; rw [Nat.zero_add] at HX ⊢; have HSR2 := Lib.hid (HLQ.out ▸ pairs_src (HL2.out.q.below HX.out.below (Nat.le_refl _))))
            | (at_builtin; refine wpList_pair _ _ rfl rfl rfl rfl HX.out HSR2.out (by omega) ?_; intro yp yc w5 HY; have HY2 := Lib.hid (show PairsAt w5 (.slice yp (k + i) yc) (P ++ Q) from pairs_of_owns (by rw [List.length_append, HLP.out, HLQ.out, prs_app]; have e := HY.out.row; simpa using e) (by rw [List.length_append, HLP.out, HLQ.out]; omega)); have HL5 := Lib.hid (HL2.out.keep HY.out.below); have HA5 := Lib.hid (HA2.out.keep HY.out.below); have HB51 := Lib.hid (HB21.out.keep HY.out.below); have HB5 := Lib.hid (HB3.out.trans (HY.out.below.mono HB3.out.size)))
            | (go_at_call 27; (with_reducible refine (K3 _ _ HL5.out HY2.out).out.mono ?_); rintro e w6 ⟨cp, cc, rfl, h1, hb2⟩; have HC1 := Lib.hid h1; have HA6 := Lib.hid (HA5.out.keep hb2); have HB61 := Lib.hid (HB51.out.keep hb2); have HL6 := Lib.hid (HL5.out.keep hb2); have HB6 := Lib.hid (HB5.out.trans (hb2.mono HB5.out.size)); clear h1 hb2)
            | (go_at_call 25; (with_reducible refine (K4 _ HL6.out).out.mono ?_); rintro e w7 ⟨up, uc, rfl, h1, hb2⟩; have HRS := Lib.hid (show Rs (.slice ap n ac) (.slice bp n bc) (.slice cp n cc) (.slice up u uc) (loadsL T P) (loadsL T Q) (loadsL T (P ++ Q)) (unionL T A D) w7 from ⟨HA6.out.keep hb2, HB61.out.keep hb2, HC1.out.keep hb2, h1⟩); have HB7 := Lib.hid (HB6.out.trans (hb2.mono HB6.out.size)); clear h1 hb2))
          clear K1 K2 K3 K4 HLD HA1 HL1 HB2 HB21 HA2 HL2 HB3 HST HSR HSR2 HX HY HY2 HL5 HA5 HB51 HB5 HC1 HA6 HB61 HL6 HB6 HVP HVQ HVN HVC
          have hbnd := fun (ps : List (Int × Int)) j => ldTo_le T ps ps.length j
          go_loopw [23] (fun s wr => ∃ j : Nat, j ≤ n ∧ s = .int .i64 j ∧ Hid (Below w7.heap.size w7 wr)) (fun s _ => n - (intOf s).toNat)
          case atStart => exact ⟨0, by omega, rfl, Below.refl _ _⟩
          case round =>
            rename World => wz
            obtain ⟨j, hj, rfl, HB⟩ := hrel
            by_cases hjn : j < n
            · obtain ⟨b1, o1, rfl, hb1, c1⟩ := (HRS.out.keep HB.out).a.cell (i := j) (by rw [len_loads, HTL.out]; exact hjn)
              obtain ⟨b2, o2, rfl, hb2, c2⟩ := (HRS.out.keep HB.out).b.cell (i := j) (by rw [len_loads, HTL.out]; exact hjn)
              obtain ⟨b3, o3, rfl, hb3, c3⟩ := (HRS.out.keep HB.out).c.cell (i := j) (by rw [len_loads, HTL.out]; exact hjn)
              rw [loads_get (by rw [HTL.out]; exact hjn)] at c1 c2 c3
              have hin := HUN.out j hjn
              have e1 := HADD.out j
              have l1 : ldTo T P P.length j ≤ k := Nat.le_trans (hbnd P j) (Nat.le_of_eq HLP.out)
              have l2 : ldTo T Q Q.length j ≤ i := Nat.le_trans (hbnd Q j) (Nat.le_of_eq HLQ.out)
              obtain ⟨ua, hua⟩ : ∃ x, ldTo T P P.length j = x := ⟨_, rfl⟩
              obtain ⟨ub, hub⟩ : ∃ x, ldTo T Q Q.length j = x := ⟨_, rfl⟩
              rw [hua] at c1 hin e1 l1
              rw [hub] at c2 e1 l2
              rw [e1] at c3
              rw [show ((ua + ub : Nat) : Int) = (ua : Int) + (ub : Int) from rfl] at c3
              have HIN := Lib.hid hin
              have hwr : IntKind.i64.wrap ((ua : Int) + (ub : Int)) = (ua : Int) + (ub : Int) := IntWalk.i64_in _ (by omega)
              have HUU := Lib.hid ((HRS.out.keep HB.out).u)
              have HC1 := Lib.hid c1
              have HC2 := Lib.hid c2
              have HC3 := Lib.hid c3
              clear c1 c2 c3 hin e1 hua hub l1 l2
              have hjn2 : decide (j < n) = true := by simpa using hjn
              by_cases hu0 : 0 < ua
              · have q5 : decide (0 < ua) = true := by simpa using hu0
                have HIN2 := Lib.hid (show decide ((j : Int) ∈ unionL T A D) = true by rw [HIN.out]; simpa using hu0)
                clear HIN hu0
                go_wp2_with fail
                refine wp_region_grow (Below wz.heap.size wz) (by kernel_rfl) ?_ (Below.refl _ _).drew ?_
                · kernel_rfl
                repeat first
                         | (apply gRow_plain
                            · exact rfl
                            · intro wg hg
                              ((have xA := (hg.cell (p := ⟨b1, o1 + j, none⟩) hb1).trans HC1.out; have xB := (hg.cell (p := ⟨b2, o2 + j, none⟩) hb2).trans HC2.out; have xC := (hg.cell (p := ⟨b3, o3 + j, none⟩) hb3).trans HC3.out))
                              go_simp
                              first
                                | exact rfl
                                | exact hg
                                | exact ⟨hg, rfl⟩
                                | ((((with_reducible refine (in_as (HUU.out.keep hg) HIN2.out).mono ?_); rintro e w' ⟨rfl, rfl⟩; exact ⟨rfl, hg⟩)))
                            intro K hK
                            go_simp
                            refine hK _ ?_
                            clear hK K)
                         | (apply gRow_step
                            · go_simp; done
                            · intro wg hg
                              ((have xA := (hg.cell (p := ⟨b1, o1 + j, none⟩) hb1).trans HC1.out; have xB := (hg.cell (p := ⟨b2, o2 + j, none⟩) hb2).trans HC2.out; have xC := (hg.cell (p := ⟨b3, o3 + j, none⟩) hb3).trans HC3.out))
                              go_simp
                              first
                                | exact rfl
                                | exact hg
                                | exact ⟨hg, rfl⟩
                                | ((((with_reducible refine (in_as (HUU.out.keep hg) HIN2.out).mono ?_); rintro e w' ⟨rfl, rfl⟩; exact ⟨rfl, hg⟩)))
                            intro K hK
                            go_simp
                            refine hK _ ?_
                            clear hK K)
                         | (apply gRow_not
                            · go_simp; done
                            intro K hK
                            go_simp
                            refine hK _ ?_
                            clear hK K)
                refine gRow_nil ?_
                intro w5 hb5
                have HB5 := Lib.hid (HB.out.trans (hb5.mono HB.out.size))
                clear hb5 hwr
                go_wp2_with fail
                go_roundw
                case rel => exact ⟨j + 1, by omega, by go_num, HB5⟩
                case measure => simp [intOf]; omega
              · have q5 : decide (0 < ua) = false := by simpa using hu0
                have HIN2 := Lib.hid (show decide ((j : Int) ∈ unionL T A D) = false by rw [HIN.out]; simpa using hu0)
                clear HIN hu0
                go_wp2_with fail
                refine wp_region_grow (Below wz.heap.size wz) (by kernel_rfl) ?_ (Below.refl _ _).drew ?_
                · kernel_rfl
                repeat first
                         | (apply gRow_plain
                            · exact rfl
                            · intro wg hg
                              ((have xA := (hg.cell (p := ⟨b1, o1 + j, none⟩) hb1).trans HC1.out; have xB := (hg.cell (p := ⟨b2, o2 + j, none⟩) hb2).trans HC2.out; have xC := (hg.cell (p := ⟨b3, o3 + j, none⟩) hb3).trans HC3.out))
                              go_simp
                              first
                                | exact rfl
                                | exact hg
                                | exact ⟨hg, rfl⟩
                                | ((((with_reducible refine (in_as (HUU.out.keep hg) HIN2.out).mono ?_); rintro e w' ⟨rfl, rfl⟩; exact ⟨rfl, hg⟩)))
                            intro K hK
                            go_simp
                            refine hK _ ?_
                            clear hK K)
                         | (apply gRow_step
                            · go_simp; done
                            · intro wg hg
                              ((have xA := (hg.cell (p := ⟨b1, o1 + j, none⟩) hb1).trans HC1.out; have xB := (hg.cell (p := ⟨b2, o2 + j, none⟩) hb2).trans HC2.out; have xC := (hg.cell (p := ⟨b3, o3 + j, none⟩) hb3).trans HC3.out))
                              go_simp
                              first
                                | exact rfl
                                | exact hg
                                | exact ⟨hg, rfl⟩
                                | ((((with_reducible refine (in_as (HUU.out.keep hg) HIN2.out).mono ?_); rintro e w' ⟨rfl, rfl⟩; exact ⟨rfl, hg⟩)))
                            intro K hK
                            go_simp
                            refine hK _ ?_
                            clear hK K)
                         | (apply gRow_not
                            · go_simp; done
                            intro K hK
                            go_simp
                            refine hK _ ?_
                            clear hK K)
                refine gRow_nil ?_
                intro w5 hb5
                have HB5 := Lib.hid (HB.out.trans (hb5.mono HB.out.size))
                clear hb5 hwr
                go_wp2_with fail
                go_roundw
                case rel => exact ⟨j + 1, by omega, by go_num, HB5⟩
                case measure => simp [intOf]; omega
            · obtain rfl : j = n := by omega
              have HBE := Lib.hid (HB7.out.trans (HB.out.mono HB7.out.size))
              go_wp2_with (first
                | (go_at_call 14; (with_reducible refine (awake_any _).mono ?_); rintro e w8 ⟨rfl, hb8⟩; have HB8 := Lib.hid (HBE.out.trans (hb8.mono HBE.out.size)); clear hb8))
              go_ret
              exact ⟨rfl, HB8.out⟩
end Go.Proofs.Ytkjamafpohnflaa
