/- The walk of clone. -/
import Derived.Test.YtgnmolleaengaaaGreatJc
set_option linter.unusedVariables false
set_option linter.unusedSimpArgs false
set_option linter.unnecessarySimpa false
namespace Go.Proofs.YtgnmolleaengaaaGreat
open Go Go.RowKit

/-- the two boxes, and what has been cloned -/
structure Cl (w : World) (b2 b1 : Nat) (c : Array Value) (N : List (Value × List Nat)) (w' : World) : Prop where
  mm : Mm [] w w' [(b2, #[.int .i64 0, .int .i64 0, .int .i64 0, .bool false, .slice none 0 0, .slice none 0 0, .int .i64 0]), (b1, c)]
  t1 : TyB w' b1 29
  t2 : TyB w' b2 29
  ru : ∀ x ∈ N, Ru w' x.1 x.2
namespace Cl
variable {w w1 w2 : World} {b2 b1 : Nat} {c : Array Value} {N : List (Value × List Nat)}
theorem grow (h : Cl w b2 b1 c N w1) (hb : Below w1.heap.size w1 w2) : Cl w b2 b1 c N w2 := ⟨h.mm.call hb, h.t1.keep hb, h.t2.keep hb, fun x hx => (h.ru x hx).keep hb⟩
theorem below (h : Cl w b2 b1 c N w1) : Below w.heap.size w w1 := h.mm.only.below (by simp) (Nat.le_refl _)
theorem more (h : Cl w b2 b1 c N w1) (hb : Below w1.heap.size w1 w2) {v : Value} {l : List Nat} (hv : Ru w2 v l) : Cl w b2 b1 c ((v, l) :: N) w2 :=
  ⟨h.mm.call hb, h.t1.keep hb, h.t2.keep hb, fun x hx => by
    rcases List.mem_cons.1 hx with rfl | hx
    · exact hv
    · exact (h.ru x hx).keep hb⟩
theorem put (h : Cl w b2 b1 c N w1) (i : Nat) (v : Value) : Cl w b2 b1 (c.setIfInBounds i v) N (w1.setCell ⟨b1, i, none⟩ v) :=
  ⟨h.mm.set 1 rfl i v, h.t1.setCell i v, h.t2.setCell i v, fun x hx => (h.ru x hx).set h.t1 (by decide) i v⟩
end Cl




set_option maxRecDepth 20000 in
set_option maxHeartbeats 2000000 in
theorem clone_as {w : World} {j : Jb} {an ad : Option Addr} {anc adc : Nat} (h1 : Rd eU w (.slice an (limb j.n).length anc) (limb j.n)) (h2 : Rd eU w (.slice ad (limb j.d).length adc) (limb j.d)) :
    Calls Tryz.prog 35 #[jv j (.slice an (limb j.n).length anc) (.slice ad (limb j.d).length adc)] w (JobPost w j) := by
  have HN := Lib.hid h1
  have HD := Lib.hid h2
  have HLN := Lib.hid (show (limb j.n).length ≤ 1000 by rw [limb_len]; split <;> omega)
  have HLD := Lib.hid (show (limb j.d).length ≤ 1000 by rw [limb_len]; split <;> omega)
  have HC0 := Lib.hid (show Cl w (w.heap.size + 1) w.heap.size (jc j (.slice an (limb j.n).length anc) (.slice ad (limb j.d).length adc)) [] ((w.alloc (.cells (jc j (.slice an (limb j.n).length anc) (.slice ad (limb j.d).length adc)) 29)).alloc (.cells #[.int .i64 0, .int .i64 0, .int .i64 0, .bool false, .slice none 0 0, .slice none 0 0, .int .i64 0] 29)) from
    ⟨((Mm.start (S := []) w (by simp)).push w.heap.size _ 29 rfl).push (w.heap.size + 1) _ 29 (by simp), (TyB.new w _ 29).keep (below_alloc _ _), by
      have := TyB.new (w.alloc (.cells (jc j (.slice an (limb j.n).length anc) (.slice ad (limb j.d).length adc)) 29)) #[.int .i64 0, .int .i64 0, .int .i64 0, .bool false, .slice none 0 0, .slice none 0 0, .int .i64 0] 29
      simpa using this, fun x hx => by cases hx⟩)
  clear h1 h2
  obtain ⟨a1, a2, a3, a4, n, d⟩ := j
  change Hid (Rd eU w (.slice an (limb n).length anc) (limb n)) at HN
  change Hid (Rd eU w (.slice ad (limb d).length adc) (limb d)) at HD
  change Hid ((limb n).length ≤ 1000) at HLN
  change Hid ((limb d).length ≤ 1000) at HLD
  go_enter Tryz.func35, Tryz.ntmps35
  go_wp2_with fail
  change Hid (Cl w (w.heap.size + 1) w.heap.size (jc ⟨a1, a2, a3, a4, n, d⟩ (.slice an (limb n).length anc) (.slice ad (limb d).length adc)) [] ((w.alloc (.cells #[.int .i64 a1, .int .i64 a2, .int .i64 a3, .bool false, .slice an (limb n).length anc, .slice ad (limb d).length adc, .int .i64 a4] 29)).alloc (.cells #[.int .i64 0, .int .i64 0, .int .i64 0, .bool false, .slice none 0 0, .slice none 0 0, .int .i64 0] 29))) at HC0
  generalize (w.alloc (.cells #[.int .i64 a1, .int .i64 a2, .int .i64 a3, .bool false, .slice an (limb n).length anc, .slice ad (limb d).length adc, .int .i64 a4] 29)).alloc (.cells #[.int .i64 0, .int .i64 0, .int .i64 0, .bool false, .slice none 0 0, .slice none 0 0, .int .i64 0] 29) = W at *
  generalize w.heap.size + 1 = b2 at HC0 ⊢
  generalize w.heap.size = b1 at HC0 ⊢
  refine wp_region_pick (Below w.heap.size w) (Cl w b2 b1 (jc ⟨a1, a2, a3, a4, n, d⟩ (.slice an (limb n).length anc) (.slice ad (limb d).length adc)) []) [0, 1, 4, 5] 10 rfl (by kernel_rfl) (by kernel_rfl) (by kernel_rfl) (fun _ _ h hb => h.grow hb) (fun _ h => h.below) HC0.out ?_
  repeat (apply pRow_plain
          · exact rfl
          · exact rfl
          · intro wg hg
            ((skip))
            go_simp
            first
              | exact rfl
              | exact Below.refl _ _
              | exact ⟨Below.refl _ _, rfl⟩
              | ((fail))
          intro K hK
          go_simp
          refine hK _ ?_
          clear hK K)
  refine pRow_nil ?_
  refine lAny_step [2, 6] (by kernel_rfl) (by simp) fun k hk => ?_
  have hk' : k = 2 ∨ k = 6 := by simpa using hk
  rcases hk' with rfl | rfl
  · (
      refine lOp_call (.slice an (limb n).length anc) rfl rfl (T' := Cl w b2 b1 (jc ⟨a1, a2, a3, a4, n, d⟩ (.slice an (limb n).length anc) (.slice ad (limb d).length adc)) []) (fun _ _ h hb => h.grow hb) (fun _ h => h.below) ?_ ?_
      · intro wg hg
        obtain ⟨e0, e1, e2, e3, e4, e5, e6, -⟩ := hg.mm.lay7 1 rfl
        have HK := hg
        go_simp
        try first
          | exact HK
          | exact ⟨rfl, HK⟩
      go_simp)
    refine lAny_step [3, 6] (by kernel_rfl) (by simp) fun k hk => ?_
    have hk' : k = 3 ∨ k = 6 := by simpa using hk
    rcases hk' with rfl | rfl
    · (
        refine lOp_special' rfl (fun u w' => ∃ pa pc, u = .slice pa (limb n).length pc ∧ Cl w b2 b1 (jc ⟨a1, a2, a3, a4, n, d⟩ (.slice an (limb n).length anc) (.slice ad (limb d).length adc)) [(.slice pa (limb n).length pc, limb n)] w') rfl ?_ (fun u w' h => by obtain ⟨_, _, _, h⟩ := h; exact h.below) ?_ ?_
        · rintro u w1 w2 ⟨pa, pc, rfl, h⟩ hb
          exact ⟨pa, pc, rfl, h.grow hb⟩
        · intro wg hg
          go_simp
          with_reducible refine (sclone_as (HN.out.below hg.below (Nat.le_refl _)) HLN.out).mono ?_
          rintro e w' ⟨pa, pc, rfl, hr, hb⟩
          exact ⟨_, rfl, pa, pc, rfl, hg.more hb hr⟩
        rintro u ⟨wq, pa, pc, rfl, -⟩
        have e : (fun w' => ∃ pa' pc', Value.slice pa (limb n).length pc = .slice pa' (limb n).length pc' ∧ Cl w b2 b1 (jc ⟨a1, a2, a3, a4, n, d⟩ (.slice an (limb n).length anc) (.slice ad (limb d).length adc)) [(.slice pa' (limb n).length pc', limb n)] w') = Cl w b2 b1 (jc ⟨a1, a2, a3, a4, n, d⟩ (.slice an (limb n).length anc) (.slice ad (limb d).length adc)) [(.slice pa (limb n).length pc, limb n)] := by
          funext w'
          refine propext ⟨?_, fun h => ⟨pa, pc, rfl, h⟩⟩
          rintro ⟨pa', pc', he, h⟩
          cases he
          exact h
        rw [e]
        clear e wq
        go_simp)
      refine lAny_step [6] (by kernel_rfl) (by simp) fun k hk => ?_
      obtain rfl : k = 6 := by simpa using hk
      (
        refine lOp_call (.slice ad (limb d).length adc) rfl rfl (T' := Cl w b2 b1 (jc ⟨a1, a2, a3, a4, n, d⟩ (.slice an (limb n).length anc) (.slice ad (limb d).length adc)) [(.slice pa (limb n).length pc, limb n)]) (fun _ _ h hb => h.grow hb) (fun _ h => h.below) ?_ ?_
        · intro wg hg
          obtain ⟨e0, e1, e2, e3, e4, e5, e6, -⟩ := hg.mm.lay7 1 rfl
          have HK := hg
          go_simp
          try first
            | exact HK
            | exact ⟨rfl, HK⟩
        go_simp)
      (
        refine lAny_pick' 5 [8, 9] rfl (by kernel_rfl) (by kernel_rfl) ?_
        repeat (apply pRow_plain
                · exact rfl
                · exact rfl
                · intro wg hg
                  ((skip))
                  go_simp
                  first
                    | exact rfl
                    | exact Below.refl _ _
                    | exact ⟨Below.refl _ _, rfl⟩
                    | ((fail))
                intro K hK
                go_simp
                refine hK _ ?_
                clear hK K)
        refine pRow_nil ?_
        refine lAny_step [7] (by kernel_rfl) (by simp) fun k hk => ?_
        obtain rfl : k = 7 := by simpa using hk
        refine lOp_special' rfl (fun u w' => ∃ qa qc, u = .slice qa (limb d).length qc ∧ Cl w b2 b1 (jc ⟨a1, a2, a3, a4, n, d⟩ (.slice an (limb n).length anc) (.slice ad (limb d).length adc)) [(.slice qa (limb d).length qc, limb d), (.slice pa (limb n).length pc, limb n)] w') rfl ?_ (fun u w' h => by obtain ⟨_, _, _, h⟩ := h; exact h.below) ?_ ?_
        · rintro u w1 w2 ⟨qa, qc, rfl, h⟩ hb
          exact ⟨qa, qc, rfl, h.grow hb⟩
        · intro wg hg
          go_simp
          with_reducible refine (sclone_as (HD.out.below hg.below (Nat.le_refl _)) HLD.out).mono ?_
          rintro e w' ⟨qa, qc, rfl, hr, hb⟩
          exact ⟨_, rfl, qa, qc, rfl, hg.more hb hr⟩
        rintro u ⟨wq, qa, qc, rfl, -⟩
        have e : (fun w' => ∃ qa' qc', Value.slice qa (limb d).length qc = .slice qa' (limb d).length qc' ∧ Cl w b2 b1 (jc ⟨a1, a2, a3, a4, n, d⟩ (.slice an (limb n).length anc) (.slice ad (limb d).length adc)) [(.slice qa' (limb d).length qc', limb d), (.slice pa (limb n).length pc, limb n)] w') = Cl w b2 b1 (jc ⟨a1, a2, a3, a4, n, d⟩ (.slice an (limb n).length anc) (.slice ad (limb d).length adc)) [(.slice qa (limb d).length qc, limb d), (.slice pa (limb n).length pc, limb n)] := by
          funext w'
          refine propext ⟨?_, fun h => ⟨qa, qc, rfl, h⟩⟩
          rintro ⟨qa', qc', he, h⟩
          cases he
          exact h
        rw [e]
        clear e wq
        go_simp
        refine lAny_step [10] (by kernel_rfl) (by simp) fun k hk => ?_
        obtain rfl : k = 10 := by simpa using hk
        refine lOp_call undef rfl rfl (T' := Cl w b2 b1 (jc ⟨a1, a2, a3, a4, n, d⟩ (.slice pa (limb n).length pc) (.slice ad (limb d).length adc)) [(.slice qa (limb d).length qc, limb d), (.slice pa (limb n).length pc, limb n)]) (fun _ _ h hb => h.grow hb) (fun _ h => h.below) ?_ ?_
        · intro wg hg
          obtain ⟨e0, e1, e2, e3, e4, e5, e6, f0, f1, f2, f3, f4, f5, f6, el⟩ := hg.mm.lay7 1 rfl
          have HK := hg.put 4 (.slice pa (limb n).length pc)
          go_simp
          try first
            | exact HK
            | exact ⟨rfl, HK⟩
        go_simp
        refine lAny_pick' 1 [11, 12] rfl (by kernel_rfl) (by kernel_rfl) ?_
        repeat (apply pRow_plain
                · exact rfl
                · exact rfl
                · intro wg hg
                  ((skip))
                  go_simp
                  first
                    | exact rfl
                    | exact Below.refl _ _
                    | exact ⟨Below.refl _ _, rfl⟩
                    | ((fail))
                intro K hK
                go_simp
                refine hK _ ?_
                clear hK K)
        refine pRow_nil ?_
        refine lAny_step [13] (by kernel_rfl) (by simp) fun k hk => ?_
        obtain rfl : k = 13 := by simpa using hk
        refine lOp_call undef rfl rfl (T' := Cl w b2 b1 (jc ⟨a1, a2, a3, a4, n, d⟩ (.slice pa (limb n).length pc) (.slice qa (limb d).length qc)) [(.slice qa (limb d).length qc, limb d), (.slice pa (limb n).length pc, limb n)]) (fun _ _ h hb => h.grow hb) (fun _ h => h.below) ?_ ?_
        · intro wg hg
          obtain ⟨e0, e1, e2, e3, e4, e5, e6, f0, f1, f2, f3, f4, f5, f6, el⟩ := hg.mm.lay7 1 rfl
          have HK := hg.put 5 (.slice qa (limb d).length qc)
          go_simp
          try first
            | exact HK
            | exact ⟨rfl, HK⟩
        go_simp
        refine lAny_end (by kernel_rfl) ?_
        intro w5 hq
        have HQ := Lib.hid hq
        clear hq
        obtain ⟨e0, e1, e2, e3, e4, e5, e6, -⟩ := HQ.out.mm.lay7 1 rfl
        obtain ⟨c0, c1, c2, c3, c4, c5, c6, f0, f1, f2, f3, f4, f5, f6, bl⟩ := HQ.out.mm.lay7 0 rfl
        go_wp2_with fail
        have HM7 := HQ.out.mm.put7 0 rfl (.int .i64 a1) (.int .i64 a2) (.int .i64 a3) (.bool false) (.slice pa (limb n).length pc) (.slice qa (limb d).length qc) (.int .i64 a4)
        have k3 := Ru.setAll (show (29 : TypeId) ≠ 94 by decide) [.int .i64 a1, .int .i64 a2, .int .i64 a3, .bool false, .slice pa (limb n).length pc, .slice qa (limb d).length qc, .int .i64 a4] 0 w5 (HQ.out.ru (.slice pa (limb n).length pc, limb n) (by simp)) HQ.out.t2
        have k4 := Ru.setAll (show (29 : TypeId) ≠ 94 by decide) [.int .i64 a1, .int .i64 a2, .int .i64 a3, .bool false, .slice pa (limb n).length pc, .slice qa (limb d).length qc, .int .i64 a4] 0 w5 (HQ.out.ru (.slice qa (limb d).length qc, limb d) (by simp)) HQ.out.t2
        simp only [setAll, Nat.zero_add, Nat.reduceAdd] at k3 k4
        clear c0 c1 c2 c3 c4 c5 c6 f0 f1 f2 f3 f4 f5 f6 bl e0 e1 e2 e3 e4 e5 e6
        refine bodyPost_ret (v := jv ⟨a1, a2, a3, a4, n, d⟩ (.slice pa (limb n).length pc) (.slice qa (limb d).length qc)) ?_ rfl ⟨pa, pc, qa, qc, rfl, k3, k4, HM7.only.below (by simp) (Nat.le_refl _)⟩
        obtain ⟨d0, d1, d2, d3, d4, d5, d6, -⟩ := HM7.lay7 0 rfl
        simp [results, Tryz.results35, go_sem, d0, d1, d2, d3, d4, d5, d6])
    · (
        refine lOp_call (.slice ad (limb d).length adc) rfl rfl (T' := Cl w b2 b1 (jc ⟨a1, a2, a3, a4, n, d⟩ (.slice an (limb n).length anc) (.slice ad (limb d).length adc)) []) (fun _ _ h hb => h.grow hb) (fun _ h => h.below) ?_ ?_
        · intro wg hg
          obtain ⟨e0, e1, e2, e3, e4, e5, e6, -⟩ := hg.mm.lay7 1 rfl
          have HK := hg
          go_simp
          try first
            | exact HK
            | exact ⟨rfl, HK⟩
        go_simp)
      refine lAny_step [3] (by kernel_rfl) (by simp) fun k hk => ?_
      obtain rfl : k = 3 := by simpa using hk
      (
        refine lOp_special' rfl (fun u w' => ∃ pa pc, u = .slice pa (limb n).length pc ∧ Cl w b2 b1 (jc ⟨a1, a2, a3, a4, n, d⟩ (.slice an (limb n).length anc) (.slice ad (limb d).length adc)) [(.slice pa (limb n).length pc, limb n)] w') rfl ?_ (fun u w' h => by obtain ⟨_, _, _, h⟩ := h; exact h.below) ?_ ?_
        · rintro u w1 w2 ⟨pa, pc, rfl, h⟩ hb
          exact ⟨pa, pc, rfl, h.grow hb⟩
        · intro wg hg
          go_simp
          with_reducible refine (sclone_as (HN.out.below hg.below (Nat.le_refl _)) HLN.out).mono ?_
          rintro e w' ⟨pa, pc, rfl, hr, hb⟩
          exact ⟨_, rfl, pa, pc, rfl, hg.more hb hr⟩
        rintro u ⟨wq, pa, pc, rfl, -⟩
        have e : (fun w' => ∃ pa' pc', Value.slice pa (limb n).length pc = .slice pa' (limb n).length pc' ∧ Cl w b2 b1 (jc ⟨a1, a2, a3, a4, n, d⟩ (.slice an (limb n).length anc) (.slice ad (limb d).length adc)) [(.slice pa' (limb n).length pc', limb n)] w') = Cl w b2 b1 (jc ⟨a1, a2, a3, a4, n, d⟩ (.slice an (limb n).length anc) (.slice ad (limb d).length adc)) [(.slice pa (limb n).length pc, limb n)] := by
          funext w'
          refine propext ⟨?_, fun h => ⟨pa, pc, rfl, h⟩⟩
          rintro ⟨pa', pc', he, h⟩
          cases he
          exact h
        rw [e]
        clear e wq
        go_simp)
      (
        refine lAny_pick' 5 [8, 9] rfl (by kernel_rfl) (by kernel_rfl) ?_
        repeat (apply pRow_plain
                · exact rfl
                · exact rfl
                · intro wg hg
                  ((skip))
                  go_simp
                  first
                    | exact rfl
                    | exact Below.refl _ _
                    | exact ⟨Below.refl _ _, rfl⟩
                    | ((fail))
                intro K hK
                go_simp
                refine hK _ ?_
                clear hK K)
        refine pRow_nil ?_
        refine lAny_step [7] (by kernel_rfl) (by simp) fun k hk => ?_
        obtain rfl : k = 7 := by simpa using hk
        refine lOp_special' rfl (fun u w' => ∃ qa qc, u = .slice qa (limb d).length qc ∧ Cl w b2 b1 (jc ⟨a1, a2, a3, a4, n, d⟩ (.slice an (limb n).length anc) (.slice ad (limb d).length adc)) [(.slice qa (limb d).length qc, limb d), (.slice pa (limb n).length pc, limb n)] w') rfl ?_ (fun u w' h => by obtain ⟨_, _, _, h⟩ := h; exact h.below) ?_ ?_
        · rintro u w1 w2 ⟨qa, qc, rfl, h⟩ hb
          exact ⟨qa, qc, rfl, h.grow hb⟩
        · intro wg hg
          go_simp
          with_reducible refine (sclone_as (HD.out.below hg.below (Nat.le_refl _)) HLD.out).mono ?_
          rintro e w' ⟨qa, qc, rfl, hr, hb⟩
          exact ⟨_, rfl, qa, qc, rfl, hg.more hb hr⟩
        rintro u ⟨wq, qa, qc, rfl, -⟩
        have e : (fun w' => ∃ qa' qc', Value.slice qa (limb d).length qc = .slice qa' (limb d).length qc' ∧ Cl w b2 b1 (jc ⟨a1, a2, a3, a4, n, d⟩ (.slice an (limb n).length anc) (.slice ad (limb d).length adc)) [(.slice qa' (limb d).length qc', limb d), (.slice pa (limb n).length pc, limb n)] w') = Cl w b2 b1 (jc ⟨a1, a2, a3, a4, n, d⟩ (.slice an (limb n).length anc) (.slice ad (limb d).length adc)) [(.slice qa (limb d).length qc, limb d), (.slice pa (limb n).length pc, limb n)] := by
          funext w'
          refine propext ⟨?_, fun h => ⟨qa, qc, rfl, h⟩⟩
          rintro ⟨qa', qc', he, h⟩
          cases he
          exact h
        rw [e]
        clear e wq
        go_simp
        refine lAny_step [10] (by kernel_rfl) (by simp) fun k hk => ?_
        obtain rfl : k = 10 := by simpa using hk
        refine lOp_call undef rfl rfl (T' := Cl w b2 b1 (jc ⟨a1, a2, a3, a4, n, d⟩ (.slice pa (limb n).length pc) (.slice ad (limb d).length adc)) [(.slice qa (limb d).length qc, limb d), (.slice pa (limb n).length pc, limb n)]) (fun _ _ h hb => h.grow hb) (fun _ h => h.below) ?_ ?_
        · intro wg hg
          obtain ⟨e0, e1, e2, e3, e4, e5, e6, f0, f1, f2, f3, f4, f5, f6, el⟩ := hg.mm.lay7 1 rfl
          have HK := hg.put 4 (.slice pa (limb n).length pc)
          go_simp
          try first
            | exact HK
            | exact ⟨rfl, HK⟩
        go_simp
        refine lAny_pick' 1 [11, 12] rfl (by kernel_rfl) (by kernel_rfl) ?_
        repeat (apply pRow_plain
                · exact rfl
                · exact rfl
                · intro wg hg
                  ((skip))
                  go_simp
                  first
                    | exact rfl
                    | exact Below.refl _ _
                    | exact ⟨Below.refl _ _, rfl⟩
                    | ((fail))
                intro K hK
                go_simp
                refine hK _ ?_
                clear hK K)
        refine pRow_nil ?_
        refine lAny_step [13] (by kernel_rfl) (by simp) fun k hk => ?_
        obtain rfl : k = 13 := by simpa using hk
        refine lOp_call undef rfl rfl (T' := Cl w b2 b1 (jc ⟨a1, a2, a3, a4, n, d⟩ (.slice pa (limb n).length pc) (.slice qa (limb d).length qc)) [(.slice qa (limb d).length qc, limb d), (.slice pa (limb n).length pc, limb n)]) (fun _ _ h hb => h.grow hb) (fun _ h => h.below) ?_ ?_
        · intro wg hg
          obtain ⟨e0, e1, e2, e3, e4, e5, e6, f0, f1, f2, f3, f4, f5, f6, el⟩ := hg.mm.lay7 1 rfl
          have HK := hg.put 5 (.slice qa (limb d).length qc)
          go_simp
          try first
            | exact HK
            | exact ⟨rfl, HK⟩
        go_simp
        refine lAny_end (by kernel_rfl) ?_
        intro w5 hq
        have HQ := Lib.hid hq
        clear hq
        obtain ⟨e0, e1, e2, e3, e4, e5, e6, -⟩ := HQ.out.mm.lay7 1 rfl
        obtain ⟨c0, c1, c2, c3, c4, c5, c6, f0, f1, f2, f3, f4, f5, f6, bl⟩ := HQ.out.mm.lay7 0 rfl
        go_wp2_with fail
        have HM7 := HQ.out.mm.put7 0 rfl (.int .i64 a1) (.int .i64 a2) (.int .i64 a3) (.bool false) (.slice pa (limb n).length pc) (.slice qa (limb d).length qc) (.int .i64 a4)
        have k3 := Ru.setAll (show (29 : TypeId) ≠ 94 by decide) [.int .i64 a1, .int .i64 a2, .int .i64 a3, .bool false, .slice pa (limb n).length pc, .slice qa (limb d).length qc, .int .i64 a4] 0 w5 (HQ.out.ru (.slice pa (limb n).length pc, limb n) (by simp)) HQ.out.t2
        have k4 := Ru.setAll (show (29 : TypeId) ≠ 94 by decide) [.int .i64 a1, .int .i64 a2, .int .i64 a3, .bool false, .slice pa (limb n).length pc, .slice qa (limb d).length qc, .int .i64 a4] 0 w5 (HQ.out.ru (.slice qa (limb d).length qc, limb d) (by simp)) HQ.out.t2
        simp only [setAll, Nat.zero_add, Nat.reduceAdd] at k3 k4
        clear c0 c1 c2 c3 c4 c5 c6 f0 f1 f2 f3 f4 f5 f6 bl e0 e1 e2 e3 e4 e5 e6
        refine bodyPost_ret (v := jv ⟨a1, a2, a3, a4, n, d⟩ (.slice pa (limb n).length pc) (.slice qa (limb d).length qc)) ?_ rfl ⟨pa, pc, qa, qc, rfl, k3, k4, HM7.only.below (by simp) (Nat.le_refl _)⟩
        obtain ⟨d0, d1, d2, d3, d4, d5, d6, -⟩ := HM7.lay7 0 rfl
        simp [results, Tryz.results35, go_sem, d0, d1, d2, d3, d4, d5, d6])
  · (
      refine lOp_call (.slice ad (limb d).length adc) rfl rfl (T' := Cl w b2 b1 (jc ⟨a1, a2, a3, a4, n, d⟩ (.slice an (limb n).length anc) (.slice ad (limb d).length adc)) []) (fun _ _ h hb => h.grow hb) (fun _ h => h.below) ?_ ?_
      · intro wg hg
        obtain ⟨e0, e1, e2, e3, e4, e5, e6, -⟩ := hg.mm.lay7 1 rfl
        have HK := hg
        go_simp
        try first
          | exact HK
          | exact ⟨rfl, HK⟩
      go_simp)
    refine lAny_step [2] (by kernel_rfl) (by simp) fun k hk => ?_
    obtain rfl : k = 2 := by simpa using hk
    (
      refine lOp_call (.slice an (limb n).length anc) rfl rfl (T' := Cl w b2 b1 (jc ⟨a1, a2, a3, a4, n, d⟩ (.slice an (limb n).length anc) (.slice ad (limb d).length adc)) []) (fun _ _ h hb => h.grow hb) (fun _ h => h.below) ?_ ?_
      · intro wg hg
        obtain ⟨e0, e1, e2, e3, e4, e5, e6, -⟩ := hg.mm.lay7 1 rfl
        have HK := hg
        go_simp
        try first
          | exact HK
          | exact ⟨rfl, HK⟩
      go_simp)
    refine lAny_step [3] (by kernel_rfl) (by simp) fun k hk => ?_
    obtain rfl : k = 3 := by simpa using hk
    (
      refine lOp_special' rfl (fun u w' => ∃ pa pc, u = .slice pa (limb n).length pc ∧ Cl w b2 b1 (jc ⟨a1, a2, a3, a4, n, d⟩ (.slice an (limb n).length anc) (.slice ad (limb d).length adc)) [(.slice pa (limb n).length pc, limb n)] w') rfl ?_ (fun u w' h => by obtain ⟨_, _, _, h⟩ := h; exact h.below) ?_ ?_
      · rintro u w1 w2 ⟨pa, pc, rfl, h⟩ hb
        exact ⟨pa, pc, rfl, h.grow hb⟩
      · intro wg hg
        go_simp
        with_reducible refine (sclone_as (HN.out.below hg.below (Nat.le_refl _)) HLN.out).mono ?_
        rintro e w' ⟨pa, pc, rfl, hr, hb⟩
        exact ⟨_, rfl, pa, pc, rfl, hg.more hb hr⟩
      rintro u ⟨wq, pa, pc, rfl, -⟩
      have e : (fun w' => ∃ pa' pc', Value.slice pa (limb n).length pc = .slice pa' (limb n).length pc' ∧ Cl w b2 b1 (jc ⟨a1, a2, a3, a4, n, d⟩ (.slice an (limb n).length anc) (.slice ad (limb d).length adc)) [(.slice pa' (limb n).length pc', limb n)] w') = Cl w b2 b1 (jc ⟨a1, a2, a3, a4, n, d⟩ (.slice an (limb n).length anc) (.slice ad (limb d).length adc)) [(.slice pa (limb n).length pc, limb n)] := by
        funext w'
        refine propext ⟨?_, fun h => ⟨pa, pc, rfl, h⟩⟩
        rintro ⟨pa', pc', he, h⟩
        cases he
        exact h
      rw [e]
      clear e wq
      go_simp)
    (
      refine lAny_pick' 5 [8, 9] rfl (by kernel_rfl) (by kernel_rfl) ?_
      repeat (apply pRow_plain
              · exact rfl
              · exact rfl
              · intro wg hg
                ((skip))
                go_simp
                first
                  | exact rfl
                  | exact Below.refl _ _
                  | exact ⟨Below.refl _ _, rfl⟩
                  | ((fail))
              intro K hK
              go_simp
              refine hK _ ?_
              clear hK K)
      refine pRow_nil ?_
      refine lAny_step [7] (by kernel_rfl) (by simp) fun k hk => ?_
      obtain rfl : k = 7 := by simpa using hk
      refine lOp_special' rfl (fun u w' => ∃ qa qc, u = .slice qa (limb d).length qc ∧ Cl w b2 b1 (jc ⟨a1, a2, a3, a4, n, d⟩ (.slice an (limb n).length anc) (.slice ad (limb d).length adc)) [(.slice qa (limb d).length qc, limb d), (.slice pa (limb n).length pc, limb n)] w') rfl ?_ (fun u w' h => by obtain ⟨_, _, _, h⟩ := h; exact h.below) ?_ ?_
      · rintro u w1 w2 ⟨qa, qc, rfl, h⟩ hb
        exact ⟨qa, qc, rfl, h.grow hb⟩
      · intro wg hg
        go_simp
        with_reducible refine (sclone_as (HD.out.below hg.below (Nat.le_refl _)) HLD.out).mono ?_
        rintro e w' ⟨qa, qc, rfl, hr, hb⟩
        exact ⟨_, rfl, qa, qc, rfl, hg.more hb hr⟩
      rintro u ⟨wq, qa, qc, rfl, -⟩
      have e : (fun w' => ∃ qa' qc', Value.slice qa (limb d).length qc = .slice qa' (limb d).length qc' ∧ Cl w b2 b1 (jc ⟨a1, a2, a3, a4, n, d⟩ (.slice an (limb n).length anc) (.slice ad (limb d).length adc)) [(.slice qa' (limb d).length qc', limb d), (.slice pa (limb n).length pc, limb n)] w') = Cl w b2 b1 (jc ⟨a1, a2, a3, a4, n, d⟩ (.slice an (limb n).length anc) (.slice ad (limb d).length adc)) [(.slice qa (limb d).length qc, limb d), (.slice pa (limb n).length pc, limb n)] := by
        funext w'
        refine propext ⟨?_, fun h => ⟨qa, qc, rfl, h⟩⟩
        rintro ⟨qa', qc', he, h⟩
        cases he
        exact h
      rw [e]
      clear e wq
      go_simp
      refine lAny_step [10] (by kernel_rfl) (by simp) fun k hk => ?_
      obtain rfl : k = 10 := by simpa using hk
      refine lOp_call undef rfl rfl (T' := Cl w b2 b1 (jc ⟨a1, a2, a3, a4, n, d⟩ (.slice pa (limb n).length pc) (.slice ad (limb d).length adc)) [(.slice qa (limb d).length qc, limb d), (.slice pa (limb n).length pc, limb n)]) (fun _ _ h hb => h.grow hb) (fun _ h => h.below) ?_ ?_
      · intro wg hg
        obtain ⟨e0, e1, e2, e3, e4, e5, e6, f0, f1, f2, f3, f4, f5, f6, el⟩ := hg.mm.lay7 1 rfl
        have HK := hg.put 4 (.slice pa (limb n).length pc)
        go_simp
        try first
          | exact HK
          | exact ⟨rfl, HK⟩
      go_simp
      refine lAny_pick' 1 [11, 12] rfl (by kernel_rfl) (by kernel_rfl) ?_
      repeat (apply pRow_plain
              · exact rfl
              · exact rfl
              · intro wg hg
                ((skip))
                go_simp
                first
                  | exact rfl
                  | exact Below.refl _ _
                  | exact ⟨Below.refl _ _, rfl⟩
                  | ((fail))
              intro K hK
              go_simp
              refine hK _ ?_
              clear hK K)
      refine pRow_nil ?_
      refine lAny_step [13] (by kernel_rfl) (by simp) fun k hk => ?_
      obtain rfl : k = 13 := by simpa using hk
      refine lOp_call undef rfl rfl (T' := Cl w b2 b1 (jc ⟨a1, a2, a3, a4, n, d⟩ (.slice pa (limb n).length pc) (.slice qa (limb d).length qc)) [(.slice qa (limb d).length qc, limb d), (.slice pa (limb n).length pc, limb n)]) (fun _ _ h hb => h.grow hb) (fun _ h => h.below) ?_ ?_
      · intro wg hg
        obtain ⟨e0, e1, e2, e3, e4, e5, e6, f0, f1, f2, f3, f4, f5, f6, el⟩ := hg.mm.lay7 1 rfl
        have HK := hg.put 5 (.slice qa (limb d).length qc)
        go_simp
        try first
          | exact HK
          | exact ⟨rfl, HK⟩
      go_simp
      refine lAny_end (by kernel_rfl) ?_
      intro w5 hq
      have HQ := Lib.hid hq
      clear hq
      obtain ⟨e0, e1, e2, e3, e4, e5, e6, -⟩ := HQ.out.mm.lay7 1 rfl
      obtain ⟨c0, c1, c2, c3, c4, c5, c6, f0, f1, f2, f3, f4, f5, f6, bl⟩ := HQ.out.mm.lay7 0 rfl
      go_wp2_with fail
      have HM7 := HQ.out.mm.put7 0 rfl (.int .i64 a1) (.int .i64 a2) (.int .i64 a3) (.bool false) (.slice pa (limb n).length pc) (.slice qa (limb d).length qc) (.int .i64 a4)
      have k3 := Ru.setAll (show (29 : TypeId) ≠ 94 by decide) [.int .i64 a1, .int .i64 a2, .int .i64 a3, .bool false, .slice pa (limb n).length pc, .slice qa (limb d).length qc, .int .i64 a4] 0 w5 (HQ.out.ru (.slice pa (limb n).length pc, limb n) (by simp)) HQ.out.t2
      have k4 := Ru.setAll (show (29 : TypeId) ≠ 94 by decide) [.int .i64 a1, .int .i64 a2, .int .i64 a3, .bool false, .slice pa (limb n).length pc, .slice qa (limb d).length qc, .int .i64 a4] 0 w5 (HQ.out.ru (.slice qa (limb d).length qc, limb d) (by simp)) HQ.out.t2
      simp only [setAll, Nat.zero_add, Nat.reduceAdd] at k3 k4
      clear c0 c1 c2 c3 c4 c5 c6 f0 f1 f2 f3 f4 f5 f6 bl e0 e1 e2 e3 e4 e5 e6
      refine bodyPost_ret (v := jv ⟨a1, a2, a3, a4, n, d⟩ (.slice pa (limb n).length pc) (.slice qa (limb d).length qc)) ?_ rfl ⟨pa, pc, qa, qc, rfl, k3, k4, HM7.only.below (by simp) (Nat.le_refl _)⟩
      obtain ⟨d0, d1, d2, d3, d4, d5, d6, -⟩ := HM7.lay7 0 rfl
      simp [results, Tryz.results35, go_sem, d0, d1, d2, d3, d4, d5, d6])
end Go.Proofs.YtgnmolleaengaaaGreat
