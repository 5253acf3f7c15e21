/- The walk of RouteSeparates. -/
import Derived.Test.YtkjamafpohnflaaL2
import Derived.Test.YtkjamafpohnflaaMx
import Derived.Test.YtkjamafpohnflaaGr
set_option linter.unusedVariables false
set_option linter.unusedSimpArgs false
set_option linter.unnecessarySimpa false
namespace Go.Proofs.Ytkjamafpohnflaa
open Go Go.RowKit Go.Mem Go.Deep

def MadeP (w : World) (T : List Int) (n : Nat) (e : Ending) (w' : World) : Prop := ∃ p cap, e = .returned (.slice p n cap) ∧ IntsAt w' (.slice p n cap) T ∧ Below w.heap.size w w'
theorem made_as (v : Value) (l : List Int) (w : World) (h : IntsAt w v l) (h64 : ∀ x ∈ l, In64 x) : ∃ T n, Tree.Ok T ∧ T.length = n ∧ n ≤ 40 ∧ 1 ≤ n ∧ Calls Try.prog 9 #[v] w (MadeP w T n) :=
  ⟨madeN (fun i => l.getD i 0) (min l.length 39), min l.length 39 + 1, made_ok _ (by omega), len_made _ _, by omega, by omega, made_any v l w h h64⟩
theorem node_as {n : Nat} (h1 : 1 ≤ n) (h2 : n ≤ 100) (q : Int) (hq : In64 q) : ∃ k : Nat, k < n ∧ ∀ w, Hid (Calls Try.prog 10 #[.int .i64 q, .int .i64 (n : Int)] w fun e w' => e = .returned (.int .i64 (k : Int)) ∧ w = w') := by
  have h3 := Int.emod_nonneg q (b := (n : Int)) (by omega)
  have h4 := Int.emod_lt_of_pos q (b := (n : Int)) (by omega)
  obtain ⟨k, hk⟩ : ∃ k : Nat, q % (n : Int) = k := ⟨(q % (n : Int)).toNat, by omega⟩
  exact ⟨k, by omega, fun w => hk ▸ within_any q (n : Int) w (by omega) (by omega) hq.1 hq.2⟩
/-- the color of node j when k nodes are done -/
def col (T : List Int) (K k j : Nat) : Int := if decide (j < k) && Tree.bel T j K then 1 else 0
theorem col_one {T : List Int} {K k j : Nat} (h : j < k) (hb : Tree.bel T j K = true) : col T K k j = 1 := by unfold col; simp [h, hb]
theorem col_no {T : List Int} {K k j : Nat} (h : k ≤ j ∨ Tree.bel T j K = false) : col T K k j = 0 := by
  unfold col
  rcases h with h | h
  · have : decide (j < k) = false := by simp; omega
    rw [this]; rfl
  · rw [h, Bool.and_false]; rfl

theorem col_next {T : List Int} {K k j : Nat} (h : j ≠ k) : col T K (k + 1) j = col T K k j := by
  have e : decide (j < k + 1) = decide (j < k) := by rw [Bool.eq_iff_iff, decide_eq_true_eq, decide_eq_true_eq]; omega
  unfold col; rw [e]

set_option maxRecDepth 20000 in
set_option maxHeartbeats 8000000 in
theorem separates_law (v : Value) (l : List Int) (a b c : Int) (w : World) (h : IntsAt w v l) (h64 : ∀ x ∈ l, In64 x) (ha : In64 a) (hb : In64 b) (hc : In64 c) : Calls Try.prog 5 #[v, .int .i64 a, .int .i64 b, .int .i64 c] w fun e w' => e = .returned (.bool true) ∧ Below w.heap.size w w' := by
  obtain ⟨T, n, ho, hTL, hn40, hn1, k0⟩ := made_as v l w h h64
  have K0 := Lib.hid k0
  have HO := Lib.hid ho
  have HTL := Lib.hid hTL
  by_cases h2 : n < 2
  · have q0 : decide ((n : Int) < 2) = true := by simp; omega
    clear k0 ho hTL h h64
    go_enter Try.func5, Try.ntmps5
    go_wp2_with (first
      | (go_at_call 9; (with_reducible refine K0.out.mono ?_); rintro e w1 ⟨tp, tc, rfl, ht, hb1⟩; have HB1 := Lib.hid hb1; clear ht hb1)
      | (go_at_call 14; (with_reducible refine (awake_any _).mono ?_); rintro e w7 ⟨rfl, hb7⟩; have HB7 := Lib.hid (HB1.out.trans (hb7.mono HB1.out.size)); clear hb7))
    go_ret
    exact ⟨rfl, HB7.out⟩
  have q0 : decide ((n : Int) < 2) = false := by simp; omega
  obtain ⟨A, hA, KA⟩ := node_as hn1 (by omega) a ha
  obtain ⟨B, hB, KB⟩ := node_as hn1 (by omega) b hb
  obtain ⟨m, hm⟩ : ∃ m, n = m + 1 := ⟨n - 1, by omega⟩
  obtain ⟨C, hC, KC⟩ := node_as (n := m) (by omega) (by omega) c hc
  have hC1 : 1 + C < n := by omega
  rw [show (m : Int) = (n : Int) - 1 by omega] at KC
  clear hC hm
  have hA' : A < T.length := by rw [hTL]; exact hA
  have hB' : B < T.length := by rw [hTL]; exact hB
  obtain ⟨L1, hL1⟩ : ∃ L, pathI T A B = L := ⟨_, rfl⟩
  obtain ⟨n1, hn1⟩ : ∃ n, L1.length = n := ⟨_, rfl⟩
  have P1 := fun w (u : Value) (h : IntsAt w u T) => Lib.hid (Path_as w h ho hA' hB' hL1 hn1)
  obtain ⟨p, hp⟩ : ∃ p, Tree.bel T A (1 + C) = p := ⟨_, rfl⟩
  obtain ⟨q, hq⟩ : ∃ p, Tree.bel T B (1 + C) = p := ⟨_, rfl⟩
  have HIN := Lib.hid (show decide ((1 : Int) + (C : Int) ∈ L1) = (p != q) by
    have := mem_pathI (l := T) (x := A) (y := B) (k := 1 + C) (by rw [hTL]; omega)
    rw [hL1, hp, hq] at this
    rw [← this]
    congr 2)
  have hCA : Hid (∀ k, A < k → col T (1 + C) k A = if p then 1 else 0) := Lib.hid fun k hk => by
    cases p with
    | true => rw [col_one hk hp]; rfl
    | false => rw [col_no (.inr hp)]; rfl
  have hCB : Hid (∀ k, B < k → col T (1 + C) k B = if q then 1 else 0) := Lib.hid fun k hk => by
    cases q with
    | true => rw [col_one hk hq]; rfl
    | false => rw [col_no (.inr hq)]; rfl
  have hmk := run_make_row' (P := Try.prog) 22 3 (.int .i64 0) 8 Try.underlying22 info3 rfl .i64 .i64 n (by omega) (by omega)
  clear k0 ho hTL h h64 ha hb hc hA' hB' hL1 hn1 hp hq
  go_enter Try.func5, Try.ntmps5
  go_wp2_with (first
    | (go_at_call 9; (with_reducible refine K0.out.mono ?_); rintro e w1 ⟨tp, tc, rfl, ht, hb1⟩; have HT := Lib.hid ht; have HB1 := Lib.hid hb1; clear ht hb1)
    | (go_at_call 10; (with_reducible refine (KA _).out.mono ?_); rintro e wx ⟨rfl, rfl⟩)
    | (go_at_call 10; (with_reducible refine (KB _).out.mono ?_); rintro e wx ⟨rfl, rfl⟩)
    | (go_at_call 10; (with_reducible refine (KC _).out.mono ?_); rintro e wx ⟨rfl, rfl⟩)
    | (go_at_call 11; (with_reducible refine (P1 _ _ HT.out).out.mono ?_); rintro e w2 ⟨ap, ac, rfl, h1, hb2⟩; have H1 := Lib.hid h1; have HT2 := Lib.hid (HT.out.keep hb2); have HB2 := Lib.hid (HB1.out.trans (hb2.mono HB1.out.size)); clear h1 hb2))
  have hz1 := HB1.out.size
  have HR0 := Lib.hid ((World.rowIs_made w2 (.int .i64 0) n 3).congr (g := fun j => .int .i64 (col T (1 + C) 1 j)) (fun i _ => by
    show Value.int .i64 0 = .int .i64 (col T (1 + C) 1 i)
    rw [col_no]
    by_cases e : i = 0
    · subst e; right; rw [Tree.bel_root]; simp; omega
    · left; omega))
  have HB3 := Lib.hid (HB2.out.alloc HB2.out.size (.cells (madeCells #[.int .i64 0] n) 3))
  obtain ⟨cb, hcb⟩ : ∃ x, w2.heap.size = x := ⟨_, rfl⟩
  rw [hcb] at HR0
  have hcbw : w.heap.size ≤ cb := by rw [← hcb]; exact HB2.out.size
  have HBc := Lib.hid (show Below cb w2 (w2.alloc (.cells (madeCells #[.int .i64 0] n) 3)) from hcb ▸ below_alloc w2 _)
  have HLE := Lib.hid (Nat.le_of_eq hcb)
  rw [hcb]
  generalize w2.alloc (.cells (madeCells #[.int .i64 0] n) 3) = w3 at *
  have H1' := Lib.hid H1.out
  clear hcb HB3 K0 KA KB KC P1 HT H1 HB1 hz1 hmk hcbw
  go_loopw [13] (fun s wr => ∃ k : Nat, 1 ≤ k ∧ k ≤ n ∧ s = .int .i64 k ∧ Hid (wr.rowIs cb 3 n (fun j => .int .i64 (col T (1 + C) k j))) ∧ Hid (Below cb w2 wr)) (fun s _ => n - (intOf s).toNat)
  case atStart => exact ⟨1, by omega, by omega, rfl, HR0, HBc⟩
  case round =>
    rename World => wr
    obtain ⟨k, hk1, hk, rfl, HR, HB⟩ := hrel
    clear HR0 HBc
    by_cases hkn : k < n
    · obtain ⟨b2, off2, rfl, hb2, ck⟩ := (HT2.out.below HB.out HLE.out).cell (i := k) (by rw [HTL.out]; exact hkn)
      obtain ⟨b3, off3, e3, hb3, -⟩ := HT2.out.cell (i := k) (by rw [HTL.out]; exact hkn)
      cases e3
      have hb2c : b2 ≠ cb := by have := HLE.out; omega
      have hu := Tree.up_lt HO.out (x := k) (by omega) (by rw [HTL.out]; exact hkn)
      obtain ⟨y, hy⟩ : ∃ y, Tree.up T k = y := ⟨_, rfl⟩
      rw [hu.2, hy] at ck
      have hyk : y < k := by have := hu.1; omega
      have hyn : y < n := by omega
      have fy := HR.out.frozen y
      have fk := HR.out.frozen k
      obtain ⟨u, hu2⟩ : ∃ u, col T (1 + C) k y = u := ⟨_, rfl⟩
      obtain ⟨u3, hu3⟩ : ∃ u, col T (1 + C) k k = u := ⟨_, rfl⟩
      have cy : wr.cell? ⟨cb, y, none⟩ = some (.int .i64 u) := hu2 ▸ HR.out.cell (i := y) hyn
      have cc : wr.cell? ⟨cb, k, none⟩ = some (.int .i64 u3) := hu3 ▸ HR.out.cell (i := k) hkn
      have HSTEP := Lib.hid (show Tree.bel T k (1 + C) = (k == 1 + C || Tree.bel T y (1 + C)) from hy ▸ Tree.bel_step HO.out hk1 (by rw [HTL.out]; exact hkn) (1 + C))
      have HU := Lib.hid hu2
      clear hu hy hu2 hu3
      by_cases hkc : k = 1 + C
      · have qk : ((k : Int) == 1 + (C : Int)) = true := by simp; omega
        have HN2 := Lib.hid (((HR.out.set k (.int .i64 u)).set k (.int .i64 1)).congr (g := fun j => .int .i64 (col T (1 + C) (k + 1) j)) (fun j hj => by
          by_cases e : j = k
          · subst e
            have : col T (1 + C) (j + 1) j = 1 := col_one (by omega) (by rw [HSTEP.out]; simp [hkc])
            simp [this]
          · have : col T (1 + C) (k + 1) j = col T (1 + C) k j := col_next e
            simp [e, this]))
        clear hkc
        go_wp2_with fail
        go_roundw
        case rel => exact ⟨k + 1, by omega, by omega, by go_num, HN2, (HB.out.setCell (p := ⟨cb, k, none⟩) (Nat.le_refl _) _).setCell (p := ⟨cb, k, none⟩) (Nat.le_refl _) _⟩
        case measure => simp [intOf]; omega
      · have qk : ((k : Int) == 1 + (C : Int)) = false := by simp; omega
        have HN2 := Lib.hid ((HR.out.set k (.int .i64 u)).congr (g := fun j => .int .i64 (col T (1 + C) (k + 1) j)) (fun j hj => by
          by_cases e : j = k
          · subst e
            have : col T (1 + C) (j + 1) j = u := by
              rw [← HU.out]
              have e1 : (j == 1 + C) = false := by simpa using hkc
              have e2 := HSTEP.out
              rw [e1, Bool.false_or] at e2
              unfold col
              rw [e2]
              simp [hyk]
            simp [this]
          · have : col T (1 + C) (k + 1) j = col T (1 + C) k j := col_next e
            simp [e, this]))
        clear hkc
        go_wp2_with fail
        go_roundw
        case rel => exact ⟨k + 1, by omega, by omega, by go_num, HN2, HB.out.setCell (p := ⟨cb, k, none⟩) (Nat.le_refl _) _⟩
        case measure => simp [intOf]; omega
    · obtain rfl : k = n := by omega
      have hcA := hCA.out k hA
      have hcB := hCB.out k hB
      have cA := HR.out.cell (i := A) hA
      have cB := HR.out.cell (i := B) hB
      have hcl := HR.out.lt
      have H1r := Lib.hid (H1'.out.below HB.out HLE.out)
      have HBR := Lib.hid (HB2.out.trans (HB.out.mono (Nat.le_trans HB2.out.size HLE.out)))
      cases p <;> cases q
      all_goals
        simp only [if_true, if_false, Bool.false_eq_true] at hcA hcB
        have HcA := Lib.hid (hcA ▸ cA)
        have HcB := Lib.hid (hcB ▸ cB)
        have HIN2 := Lib.hid (show decide ((1 : Int) + (C : Int) ∈ L1) = _ from HIN.out)
        simp only [Bool.bne_true, Bool.bne_false, Bool.not_true, Bool.not_false, bne_self_eq_false, Bool.true_bne, Bool.false_bne] at HIN2
        clear cA cB hcA hcB
        go_wp2_with fail
        refine wp_region_grow (Below wr.heap.size wr) (by kernel_rfl) ?_ (Below.refl _ _).drew ?_
        · kernel_rfl
        repeat first
                 | (apply gRow_plain
                    · exact rfl
                    · intro wg hg
                      ((have xA := (hg.cell (p := ⟨cb, A, none⟩) hcl).trans HcA.out; have xB := (hg.cell (p := ⟨cb, B, none⟩) hcl).trans HcB.out))
                      go_simp
                      first
                        | exact rfl
                        | exact hg
                        | exact ⟨hg, rfl⟩
                        | ((first | ((with_reducible refine (awake_any _).mono ?_); rintro e w' ⟨rfl, hb⟩; exact ⟨rfl, hg.trans (hb.mono hg.size)⟩) | ((with_reducible refine (in_as (H1r.out.keep hg) HIN2.out).mono ?_); rintro e w' ⟨rfl, rfl⟩; exact ⟨rfl, hg⟩)))
                    intro K hK
                    go_simp
                    refine hK _ ?_
                    clear hK K)
                 | (apply gRow_step
                    · go_simp; done
                    · intro wg hg
                      ((have xA := (hg.cell (p := ⟨cb, A, none⟩) hcl).trans HcA.out; have xB := (hg.cell (p := ⟨cb, B, none⟩) hcl).trans HcB.out))
                      go_simp
                      first
                        | exact rfl
                        | exact hg
                        | exact ⟨hg, rfl⟩
                        | ((first | ((with_reducible refine (awake_any _).mono ?_); rintro e w' ⟨rfl, hb⟩; exact ⟨rfl, hg.trans (hb.mono hg.size)⟩) | ((with_reducible refine (in_as (H1r.out.keep hg) HIN2.out).mono ?_); rintro e w' ⟨rfl, rfl⟩; exact ⟨rfl, hg⟩)))
                    intro K hK
                    go_simp
                    refine hK _ ?_
                    clear hK K)
                 | (apply gRow_not
                    · go_simp; done
                    intro K hK
                    go_simp
                    refine hK _ ?_
                    clear hK K)
        refine gRow_nil ?_
        intro w5 hb5
        have HB5 := Lib.hid (HBR.out.trans (hb5.mono HBR.out.size))
        clear hb5
        go_wp2_with fail
        go_ret
        exact ⟨rfl, HB5.out⟩
end Go.Proofs.Ytkjamafpohnflaa
