/- The walk of Near. -/
import Derived.Test.YtpkgcklnknbbcaaA1
set_option linter.unusedVariables false
set_option linter.unusedSimpArgs false
set_option linter.unnecessarySimpa false
namespace Go.Proofs.Ytpkgcklnknbbcaa
open Go.RowKit

def nearF (p s v : Int) (d : Bool) : St :=
  (1 + p % 5, 1 + s % 4, if 1 + p % 5 = 1 then v % allOf (1 + s % 4) else if 1 + p % 5 = 5 then v % (allOf (1 + s % 4) + 1) else allOf (1 + s % 4), d)

def RetS (x : St) (w : World) (e : Ending) (w' : World) : Prop := e = .returned (stV x) ∧ Below w.heap.size w w'
theorem retS {x : St} {w w' : World} {a : Act} {f : Func} (h : (results f a.tmps).run Try.prog w' = .ok (stV x) w') (hd : a.defers = []) (hb : Below w.heap.size w w') :
    bodyPost Try.prog f (RetS x w) .ret a w' := bodyPost_ret h hd ⟨rfl, hb⟩

theorem allOf_ge {s : Int} (h1 : 1 ≤ s) (h4 : s ≤ 4) : 1 ≤ allOf s := by
  have hs : s = 1 ∨ s = 2 ∨ s = 3 ∨ s = 4 := by omega
  rcases hs with rfl | rfl | rfl | rfl <;> decide

theorem factsN {w wr : World} {p s v : Int} {d : Bool} (w' : World) (h : upP w wr p s v d w') : w'.cell? ⟨w.heap.size, 0, none⟩ = some (.int .i64 p) ∧ w'.cell? ⟨w.heap.size, 1, none⟩ = some (.int .i64 s) ∧ w'.cell? ⟨w.heap.size, 2, none⟩ = some (.int .i64 v) ∧ w'.cell? ⟨w.heap.size, 3, none⟩ = some (.bool d) := h.1.a

set_option maxHeartbeats 1000000 in
theorem near_any (p s v : Int) (d : Bool) (w : World) (hp1 : -9223372036854775808 ≤ p) (hp2 : p ≤ 9223372036854775807) (hs1 : -9223372036854775808 ≤ s) (hs2 : s ≤ 9223372036854775807) (hv1 : -9223372036854775808 ≤ v) (hv2 : v ≤ 9223372036854775807) :
    Calls Try.prog 15 #[.agg #[.int .i64 p, .int .i64 s, .int .i64 v, .bool d]] w (RetS (nearF p s v d) w) := by
  obtain ⟨X, hX⟩ : ∃ X, X = nearF p s v d := ⟨_, rfl⟩
  rw [← hX]
  have HX := Lib.hid hX
  clear hX
  have HE := Lib.hid (enterP w p s v d)
  obtain ⟨n, hn⟩ : ∃ n, n = s % 4 := ⟨_, rfl⟩
  obtain ⟨q, hq⟩ : ∃ q, q = p % 5 := ⟨_, rfl⟩
  have n1 : 0 ≤ n := by omega
  have n2 : n < 4 := by omega
  have q1 : 0 ≤ q := by omega
  have q2 : q < 5 := by omega
  have HN := Lib.hid hn
  have HQ := Lib.hid hq
  have HP := Lib.hid (And.intro (And.intro hp1 hp2) (And.intro (And.intro hs1 hs2) (And.intro hv1 hv2)))
  have hA1 := allOf_ge (s := 1 + n) (by omega) (by omega)
  have hA2 := allOf_le (s := 1 + n) (by omega) (by omega)
  obtain ⟨A, hA⟩ : ∃ A, A = allOf (1 + n) := ⟨_, rfl⟩
  rw [← hA] at hA1 hA2
  have HA := Lib.hid hA
  clear hn hq hA hp1 hp2 hs1 hs2 hv1 hv2
  go_enter Try.func15, Try.ntmps15
  go_wp2_with (first
    | (go_at_call 12; refine (within_any _ _ _ (by decide) (by decide) HP.out.2.1.1 HP.out.2.1.2).mono ?_; rintro e w1 ⟨rfl, rfl⟩; rw [← HN.out])
    | (go_at_call 25; refine (refAll_any _ _ (by omega) (by omega)).mono ?_; rintro e w1 ⟨rfl, rfl⟩; rw [← HA.out]))
  generalize (w.alloc (.cells #[.int .i64 p, .int .i64 s, .int .i64 v, .bool d] 23)).alloc (.cells #[.int .i64 0, .int .i64 0, .int .i64 0, .bool false] 23) = wr at *
  have hzr := HE.out.size
  refine wp_region_late (upP w wr p s v d) 9 (by kernel_rfl) (by kernel_rfl) upP_stable ⟨HE.out, Nat.le_refl _⟩ ?_
  simp only [List.take_succ_cons, List.take_zero, List.drop_succ_cons, List.drop_zero]
  repeat first
           | (apply bRow_plain
              · exact rfl
              · intro wg hg
                have hc := factsN wg hg
                go_simp
                first
                  | exact rfl
                  | exact ⟨Below.refl _ _, rfl⟩
                  | ((refine (within_any _ _ _ (by decide) (by decide) HP.out.1.1 HP.out.1.2).mono ?_; rintro e w1 ⟨rfl, rfl⟩; exact ⟨by rw [← HQ.out], Below.refl _ _⟩))
              intro K hK
              go_simp
              refine hK _ ?_
              clear hK K)
           | (apply bRow_step
              · go_simp; done
              · intro wg hg
                have hc := factsN wg hg
                go_simp
                first
                  | exact rfl
                  | exact ⟨Below.refl _ _, rfl⟩
                  | ((refine (within_any _ _ _ (by decide) (by decide) HP.out.1.1 HP.out.1.2).mono ?_; rintro e w1 ⟨rfl, rfl⟩; exact ⟨by rw [← HQ.out], Below.refl _ _⟩))
              intro K hK
              go_simp
              refine hK _ ?_
              clear hK K)
           | (apply bRow_not
              · go_simp; done
              intro K hK
              go_simp
              refine hK _ ?_
              clear hK K)
  refine bRow_nil ?_
  refine sRow_alloc4 wr.heap.size upP_stable (fun _ h => h.2) (fun _ h => h) rfl (by intro w0; go_simp) ?_
  intro b0 K hK
  go_simp
  refine hK _ ?_
  clear hK K
  refine sRow_store4 upP_stable (upP_set hzr) rfl (by intros; go_simp; rfl) ?_
  intro K hK
  go_simp
  refine hK _ ?_
  clear hK K
  refine sRow_nil ?_
  rintro w1 hW1
  obtain ⟨⟨hP1, hz2⟩, ⟨e0, e1, e2, e3⟩, ht, hb0, hb1⟩ := hW1
  have HP1 := Lib.hid hP1
  have k0 := ht 0
  have k1 := ht 1
  have k2 := ht 2
  have k3 := ht 3
  clear hP1 ht
  (obtain ⟨c0, c1, c2, c3⟩ := (HP1).out.a
   obtain ⟨c6, c7, c8, c9⟩ := (HP1).out.r
   have cf0 := (HP1).out.fa 0
   have cf1 := (HP1).out.fa 1
   have cf2 := (HP1).out.fa 2
   have cf3 := (HP1).out.fa 3
   have cg0 := (HP1).out.fr 0
   have cg1 := (HP1).out.fr 1
   have cg2 := (HP1).out.fr 2
   have cg3 := (HP1).out.fr 3
   have hz1 := (HP1).out.size
   have hz0 := Nat.lt_of_succ_lt hz1)
  have ne0 : b0 ≠ w.heap.size := by omega
  have ne1 : b0 ≠ w.heap.size + 1 := by omega
  have hc : q = 0 ∨ q = 4 ∨ (q ≠ 0 ∧ q ≠ 4) := by omega
  rcases hc with rfl | rfl | ⟨g0, g4⟩
  rotate_left 2
  have g0' : (1 + q == 1) = false := by simp; omega
  have g4' : (1 + q == 5) = false := by simp; omega
  clear g0 g4
  all_goals
    go_wp2_with (go_at_call 12; refine (within_any _ _ _ (by omega) (by omega) HP.out.2.2.1 HP.out.2.2.2).mono ?_; rintro e w2 ⟨rfl, rfl⟩)
    refine retS ?_ rfl ?_
    · rw [HX.out]
      unfold nearF
      rw [← HN.out, ← HQ.out, ← HA.out]
      simp_all [results, Try.f15, go_sem, stV]
    · (repeat first | with_reducible refine below_set ?_ (by omega) | with_reducible refine below_new ?_); with_reducible exact HP1.out.below
end Go.Proofs.Ytpkgcklnknbbcaa
