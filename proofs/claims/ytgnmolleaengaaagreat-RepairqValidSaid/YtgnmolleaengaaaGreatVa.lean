/- Jobs of any risk; the walk of clone; the queue in memory. -/
import Derived.Test.YtgnmolleaengaaaGreatRn
set_option linter.unusedVariables false
set_option linter.unusedSimpArgs false
set_option linter.unnecessarySimpa false
namespace Go.Proofs.YtgnmolleaengaaaGreat
namespace V
open Go Go.RowKit

/-- a job: its numbers, and its risk -/
structure Jb where
  vol : Int
  frag : Int
  cls : Int
  rem : Int
  neg : Bool
  n : List Nat
  d : List Nat
abbrev jc (j : Jb) (num den : Value) : Array Value := #[.int .i64 j.vol, .int .i64 j.frag, .int .i64 j.cls, .bool j.neg, num, den, .int .i64 j.rem]
abbrev jv (j : Jb) (num den : Value) : Value := .agg (jc j num den)
/-- rows of limbs short enough to be cloned -/
def OkJ (j : Jb) : Prop := j.n.length ≤ 200 ∧ j.d.length ≤ 200
/-- a job as a value -/
def JobPost (w : World) (j : Jb) (e : Ending) (w' : World) : Prop := ∃ a c a2 c2, e = .returned (jv j (.slice a j.n.length c) (.slice a2 j.d.length c2)) ∧ Ru w' (.slice a j.n.length c) j.n ∧ Ru w' (.slice a2 j.d.length c2) j.d ∧ Below w.heap.size w w'

abbrev kc (j : Jb) : Value := .agg #[.int .i64 j.vol, .int .i64 j.frag]
theorem key_as (j : Jb) (an ad : Option Addr) (n1 c1 n2 c2 : Nat) (w : World) :
    Calls Tryz.prog 34 #[jv j (.slice an n1 c1) (.slice ad n2 c2)] w fun e w' => e = .returned (kc j) ∧ Below w.heap.size w w' := by
  have HM := Lib.hid (((Mm.start (S := []) w (by simp)).push w.heap.size (jc j (.slice an n1 c1) (.slice ad n2 c2)) 29 rfl).push (w.heap.size + 1) #[.int .i64 j.vol, .int .i64 j.frag] 33 (by simp))
  obtain ⟨a1, a2, a3, a4, ng, a5, a6⟩ := j
  go_enter Tryz.func34, Tryz.ntmps34
  go_wp2_with fail
  refine bodyPost_ret (v := .agg #[.int .i64 a1, .int .i64 a2]) ?_ rfl ⟨rfl, HM.out.only.below (by simp) (Nat.le_refl _)⟩
  obtain ⟨d0, d1, -⟩ := HM.out.lay2 0 rfl
  simp [results, Tryz.results34, go_sem]
/-- the two boxes, and what has been cloned -/
structure Cl (w : World) (b2 b1 : Nat) (c : Array Value) (N : List (Value × List Nat)) (w' : World) : Prop where
  mm : Mm [] w w' [(b2, #[.int .i64 0, .int .i64 0, .int .i64 0, .bool false, .slice none 0 0, .slice none 0 0, .int .i64 0]), (b1, c)]
  t1 : TyB w' b1 29
  t2 : TyB w' b2 29
  ru : ∀ x ∈ N, Ru w' x.1 x.2
namespace Cl
variable {w w1 w2 : World} {b2 b1 : Nat} {c : Array Value} {N : List (Value × List Nat)}
theorem grow (h : Cl w b2 b1 c N w1) (hb : Below w1.heap.size w1 w2) : Cl w b2 b1 c N w2 := ⟨h.mm.call hb, h.t1.keep hb, h.t2.keep hb, fun x hx => (h.ru x hx).keep hb⟩
theorem below (h : Cl w b2 b1 c N w1) : Below w.heap.size w w1 := h.mm.only.below (by simp) (Nat.le_refl _)
theorem more (h : Cl w b2 b1 c N w1) (hb : Below w1.heap.size w1 w2) {v : Value} {l : List Nat} (hv : Ru w2 v l) : Cl w b2 b1 c ((v, l) :: N) w2 :=
  ⟨h.mm.call hb, h.t1.keep hb, h.t2.keep hb, fun x hx => by
    rcases List.mem_cons.1 hx with rfl | hx
    · exact hv
    · exact (h.ru x hx).keep hb⟩
theorem put (h : Cl w b2 b1 c N w1) (i : Nat) (v : Value) : Cl w b2 b1 (c.setIfInBounds i v) N (w1.setCell ⟨b1, i, none⟩ v) :=
  ⟨h.mm.set 1 rfl i v, h.t1.setCell i v, h.t2.setCell i v, fun x hx => (h.ru x hx).set h.t1 (by decide) i v⟩
end Cl




set_option maxRecDepth 20000 in
set_option maxHeartbeats 2000000 in
theorem clone_as {w : World} {j : Jb} {an ad : Option Addr} {anc adc : Nat} (oj : OkJ j) (h1 : Rd eU w (.slice an j.n.length anc) j.n) (h2 : Rd eU w (.slice ad j.d.length adc) j.d) :
    Calls Tryz.prog 35 #[jv j (.slice an j.n.length anc) (.slice ad j.d.length adc)] w (JobPost w j) := by
  have HN := Lib.hid h1
  have HD := Lib.hid h2
  have HLN := Lib.hid (show j.n.length ≤ 1000 by have := oj.1; omega)
  have HLD := Lib.hid (show j.d.length ≤ 1000 by have := oj.2; omega)
  have HC0 := Lib.hid (show Cl w (w.heap.size + 1) w.heap.size (jc j (.slice an j.n.length anc) (.slice ad j.d.length adc)) [] ((w.alloc (.cells (jc j (.slice an j.n.length anc) (.slice ad j.d.length adc)) 29)).alloc (.cells #[.int .i64 0, .int .i64 0, .int .i64 0, .bool false, .slice none 0 0, .slice none 0 0, .int .i64 0] 29)) from
    ⟨((Mm.start (S := []) w (by simp)).push w.heap.size _ 29 rfl).push (w.heap.size + 1) _ 29 (by simp), (TyB.new w _ 29).keep (below_alloc _ _), by
      have := TyB.new (w.alloc (.cells (jc j (.slice an j.n.length anc) (.slice ad j.d.length adc)) 29)) #[.int .i64 0, .int .i64 0, .int .i64 0, .bool false, .slice none 0 0, .slice none 0 0, .int .i64 0] 29
      simpa using this, fun x hx => by cases hx⟩)
  clear h1 h2 oj
  obtain ⟨a1, a2, a3, a4, ng, n, d⟩ := j
  change Hid (Rd eU w (.slice an n.length anc) n) at HN
  change Hid (Rd eU w (.slice ad d.length adc) d) at HD
  change Hid (n.length ≤ 1000) at HLN
  change Hid (d.length ≤ 1000) at HLD
  go_enter Tryz.func35, Tryz.ntmps35
  go_wp2_with fail
  change Hid (Cl w (w.heap.size + 1) w.heap.size (jc ⟨a1, a2, a3, a4, ng, n, d⟩ (.slice an n.length anc) (.slice ad d.length adc)) [] ((w.alloc (.cells #[.int .i64 a1, .int .i64 a2, .int .i64 a3, .bool ng, .slice an n.length anc, .slice ad d.length adc, .int .i64 a4] 29)).alloc (.cells #[.int .i64 0, .int .i64 0, .int .i64 0, .bool false, .slice none 0 0, .slice none 0 0, .int .i64 0] 29))) at HC0
  generalize (w.alloc (.cells #[.int .i64 a1, .int .i64 a2, .int .i64 a3, .bool ng, .slice an n.length anc, .slice ad d.length adc, .int .i64 a4] 29)).alloc (.cells #[.int .i64 0, .int .i64 0, .int .i64 0, .bool false, .slice none 0 0, .slice none 0 0, .int .i64 0] 29) = W at *
  generalize w.heap.size + 1 = b2 at HC0 ⊢
  generalize w.heap.size = b1 at HC0 ⊢
  refine wp_region_pick (Below w.heap.size w) (Cl w b2 b1 (jc ⟨a1, a2, a3, a4, ng, n, d⟩ (.slice an n.length anc) (.slice ad d.length adc)) []) [0, 1, 4, 5] 10 rfl (by kernel_rfl) (by kernel_rfl) (by kernel_rfl) (fun _ _ h hb => h.grow hb) (fun _ h => h.below) HC0.out ?_
  repeat (apply pRow_plain
          · exact rfl
          · exact rfl
          · intro wg hg
            ((skip))
            go_simp
            first
              | exact rfl
              | exact Below.refl _ _
              | exact ⟨Below.refl _ _, rfl⟩
              | ((fail))
          intro K hK
          go_simp
          refine hK _ ?_
          clear hK K)
  refine pRow_nil ?_
  refine lAny_step [2, 6] (by kernel_rfl) (by simp) fun k hk => ?_
  have hk' : k = 2 ∨ k = 6 := by simpa using hk
  rcases hk' with rfl | rfl
  · (
      refine lOp_call (.slice an n.length anc) rfl rfl (T' := Cl w b2 b1 (jc ⟨a1, a2, a3, a4, ng, n, d⟩ (.slice an n.length anc) (.slice ad d.length adc)) []) (fun _ _ h hb => h.grow hb) (fun _ h => h.below) ?_ ?_
      · intro wg hg
        obtain ⟨e0, e1, e2, e3, e4, e5, e6, -⟩ := hg.mm.lay7 1 rfl
        have HK := hg
        go_simp
        try first
          | exact HK
          | exact ⟨rfl, HK⟩
      go_simp)
    refine lAny_step [3, 6] (by kernel_rfl) (by simp) fun k hk => ?_
    have hk' : k = 3 ∨ k = 6 := by simpa using hk
    rcases hk' with rfl | rfl
    · (
        refine lOp_special' rfl (fun u w' => ∃ pa pc, u = .slice pa n.length pc ∧ Cl w b2 b1 (jc ⟨a1, a2, a3, a4, ng, n, d⟩ (.slice an n.length anc) (.slice ad d.length adc)) [(.slice pa n.length pc, n)] w') rfl ?_ (fun u w' h => by obtain ⟨_, _, _, h⟩ := h; exact h.below) ?_ ?_
        · rintro u w1 w2 ⟨pa, pc, rfl, h⟩ hb
          exact ⟨pa, pc, rfl, h.grow hb⟩
        · intro wg hg
          go_simp
          with_reducible refine (sclone_as (HN.out.below hg.below (Nat.le_refl _)) HLN.out).mono ?_
          rintro e w' ⟨pa, pc, rfl, hr, hb⟩
          exact ⟨_, rfl, pa, pc, rfl, hg.more hb hr⟩
        rintro u ⟨wq, pa, pc, rfl, -⟩
        have e : (fun w' => ∃ pa' pc', Value.slice pa n.length pc = .slice pa' n.length pc' ∧ Cl w b2 b1 (jc ⟨a1, a2, a3, a4, ng, n, d⟩ (.slice an n.length anc) (.slice ad d.length adc)) [(.slice pa' n.length pc', n)] w') = Cl w b2 b1 (jc ⟨a1, a2, a3, a4, ng, n, d⟩ (.slice an n.length anc) (.slice ad d.length adc)) [(.slice pa n.length pc, n)] := by
          funext w'
          refine propext ⟨?_, fun h => ⟨pa, pc, rfl, h⟩⟩
          rintro ⟨pa', pc', he, h⟩
          cases he
          exact h
        rw [e]
        clear e wq
        go_simp)
      refine lAny_step [6] (by kernel_rfl) (by simp) fun k hk => ?_
      obtain rfl : k = 6 := by simpa using hk
      (
        refine lOp_call (.slice ad d.length adc) rfl rfl (T' := Cl w b2 b1 (jc ⟨a1, a2, a3, a4, ng, n, d⟩ (.slice an n.length anc) (.slice ad d.length adc)) [(.slice pa n.length pc, n)]) (fun _ _ h hb => h.grow hb) (fun _ h => h.below) ?_ ?_
        · intro wg hg
          obtain ⟨e0, e1, e2, e3, e4, e5, e6, -⟩ := hg.mm.lay7 1 rfl
          have HK := hg
          go_simp
          try first
            | exact HK
            | exact ⟨rfl, HK⟩
        go_simp)
      (
        refine lAny_pick' 5 [8, 9] rfl (by kernel_rfl) (by kernel_rfl) ?_
        repeat (apply pRow_plain
                · exact rfl
                · exact rfl
                · intro wg hg
                  ((skip))
                  go_simp
                  first
                    | exact rfl
                    | exact Below.refl _ _
                    | exact ⟨Below.refl _ _, rfl⟩
                    | ((fail))
                intro K hK
                go_simp
                refine hK _ ?_
                clear hK K)
        refine pRow_nil ?_
        refine lAny_step [7] (by kernel_rfl) (by simp) fun k hk => ?_
        obtain rfl : k = 7 := by simpa using hk
        refine lOp_special' rfl (fun u w' => ∃ qa qc, u = .slice qa d.length qc ∧ Cl w b2 b1 (jc ⟨a1, a2, a3, a4, ng, n, d⟩ (.slice an n.length anc) (.slice ad d.length adc)) [(.slice qa d.length qc, d), (.slice pa n.length pc, n)] w') rfl ?_ (fun u w' h => by obtain ⟨_, _, _, h⟩ := h; exact h.below) ?_ ?_
        · rintro u w1 w2 ⟨qa, qc, rfl, h⟩ hb
          exact ⟨qa, qc, rfl, h.grow hb⟩
        · intro wg hg
          go_simp
          with_reducible refine (sclone_as (HD.out.below hg.below (Nat.le_refl _)) HLD.out).mono ?_
          rintro e w' ⟨qa, qc, rfl, hr, hb⟩
          exact ⟨_, rfl, qa, qc, rfl, hg.more hb hr⟩
        rintro u ⟨wq, qa, qc, rfl, -⟩
        have e : (fun w' => ∃ qa' qc', Value.slice qa d.length qc = .slice qa' d.length qc' ∧ Cl w b2 b1 (jc ⟨a1, a2, a3, a4, ng, n, d⟩ (.slice an n.length anc) (.slice ad d.length adc)) [(.slice qa' d.length qc', d), (.slice pa n.length pc, n)] w') = Cl w b2 b1 (jc ⟨a1, a2, a3, a4, ng, n, d⟩ (.slice an n.length anc) (.slice ad d.length adc)) [(.slice qa d.length qc, d), (.slice pa n.length pc, n)] := by
          funext w'
          refine propext ⟨?_, fun h => ⟨qa, qc, rfl, h⟩⟩
          rintro ⟨qa', qc', he, h⟩
          cases he
          exact h
        rw [e]
        clear e wq
        go_simp
        refine lAny_step [10] (by kernel_rfl) (by simp) fun k hk => ?_
        obtain rfl : k = 10 := by simpa using hk
        refine lOp_call undef rfl rfl (T' := Cl w b2 b1 (jc ⟨a1, a2, a3, a4, ng, n, d⟩ (.slice pa n.length pc) (.slice ad d.length adc)) [(.slice qa d.length qc, d), (.slice pa n.length pc, n)]) (fun _ _ h hb => h.grow hb) (fun _ h => h.below) ?_ ?_
        · intro wg hg
          obtain ⟨e0, e1, e2, e3, e4, e5, e6, f0, f1, f2, f3, f4, f5, f6, el⟩ := hg.mm.lay7 1 rfl
          have HK := hg.put 4 (.slice pa n.length pc)
          go_simp
          try first
            | exact HK
            | exact ⟨rfl, HK⟩
        go_simp
        refine lAny_pick' 1 [11, 12] rfl (by kernel_rfl) (by kernel_rfl) ?_
        repeat (apply pRow_plain
                · exact rfl
                · exact rfl
                · intro wg hg
                  ((skip))
                  go_simp
                  first
                    | exact rfl
                    | exact Below.refl _ _
                    | exact ⟨Below.refl _ _, rfl⟩
                    | ((fail))
                intro K hK
                go_simp
                refine hK _ ?_
                clear hK K)
        refine pRow_nil ?_
        refine lAny_step [13] (by kernel_rfl) (by simp) fun k hk => ?_
        obtain rfl : k = 13 := by simpa using hk
        refine lOp_call undef rfl rfl (T' := Cl w b2 b1 (jc ⟨a1, a2, a3, a4, ng, n, d⟩ (.slice pa n.length pc) (.slice qa d.length qc)) [(.slice qa d.length qc, d), (.slice pa n.length pc, n)]) (fun _ _ h hb => h.grow hb) (fun _ h => h.below) ?_ ?_
        · intro wg hg
          obtain ⟨e0, e1, e2, e3, e4, e5, e6, f0, f1, f2, f3, f4, f5, f6, el⟩ := hg.mm.lay7 1 rfl
          have HK := hg.put 5 (.slice qa d.length qc)
          go_simp
          try first
            | exact HK
            | exact ⟨rfl, HK⟩
        go_simp
        refine lAny_end (by kernel_rfl) ?_
        intro w5 hq
        have HQ := Lib.hid hq
        clear hq
        obtain ⟨e0, e1, e2, e3, e4, e5, e6, -⟩ := HQ.out.mm.lay7 1 rfl
        obtain ⟨c0, c1, c2, c3, c4, c5, c6, f0, f1, f2, f3, f4, f5, f6, bl⟩ := HQ.out.mm.lay7 0 rfl
        go_wp2_with fail
        have HM7 := HQ.out.mm.put7 0 rfl (.int .i64 a1) (.int .i64 a2) (.int .i64 a3) (.bool ng) (.slice pa n.length pc) (.slice qa d.length qc) (.int .i64 a4)
        have k3 := Ru.setAll (show (29 : TypeId) ≠ 94 by decide) [.int .i64 a1, .int .i64 a2, .int .i64 a3, .bool ng, .slice pa n.length pc, .slice qa d.length qc, .int .i64 a4] 0 w5 (HQ.out.ru (.slice pa n.length pc, n) (by simp)) HQ.out.t2
        have k4 := Ru.setAll (show (29 : TypeId) ≠ 94 by decide) [.int .i64 a1, .int .i64 a2, .int .i64 a3, .bool ng, .slice pa n.length pc, .slice qa d.length qc, .int .i64 a4] 0 w5 (HQ.out.ru (.slice qa d.length qc, d) (by simp)) HQ.out.t2
        simp only [setAll, Nat.zero_add, Nat.reduceAdd] at k3 k4
        clear c0 c1 c2 c3 c4 c5 c6 f0 f1 f2 f3 f4 f5 f6 bl e0 e1 e2 e3 e4 e5 e6
        refine bodyPost_ret (v := jv ⟨a1, a2, a3, a4, ng, n, d⟩ (.slice pa n.length pc) (.slice qa d.length qc)) ?_ rfl ⟨pa, pc, qa, qc, rfl, k3, k4, HM7.only.below (by simp) (Nat.le_refl _)⟩
        obtain ⟨d0, d1, d2, d3, d4, d5, d6, -⟩ := HM7.lay7 0 rfl
        simp [results, Tryz.results35, go_sem, d0, d1, d2, d3, d4, d5, d6])
    · (
        refine lOp_call (.slice ad d.length adc) rfl rfl (T' := Cl w b2 b1 (jc ⟨a1, a2, a3, a4, ng, n, d⟩ (.slice an n.length anc) (.slice ad d.length adc)) []) (fun _ _ h hb => h.grow hb) (fun _ h => h.below) ?_ ?_
        · intro wg hg
          obtain ⟨e0, e1, e2, e3, e4, e5, e6, -⟩ := hg.mm.lay7 1 rfl
          have HK := hg
          go_simp
          try first
            | exact HK
            | exact ⟨rfl, HK⟩
        go_simp)
      refine lAny_step [3] (by kernel_rfl) (by simp) fun k hk => ?_
      obtain rfl : k = 3 := by simpa using hk
      (
        refine lOp_special' rfl (fun u w' => ∃ pa pc, u = .slice pa n.length pc ∧ Cl w b2 b1 (jc ⟨a1, a2, a3, a4, ng, n, d⟩ (.slice an n.length anc) (.slice ad d.length adc)) [(.slice pa n.length pc, n)] w') rfl ?_ (fun u w' h => by obtain ⟨_, _, _, h⟩ := h; exact h.below) ?_ ?_
        · rintro u w1 w2 ⟨pa, pc, rfl, h⟩ hb
          exact ⟨pa, pc, rfl, h.grow hb⟩
        · intro wg hg
          go_simp
          with_reducible refine (sclone_as (HN.out.below hg.below (Nat.le_refl _)) HLN.out).mono ?_
          rintro e w' ⟨pa, pc, rfl, hr, hb⟩
          exact ⟨_, rfl, pa, pc, rfl, hg.more hb hr⟩
        rintro u ⟨wq, pa, pc, rfl, -⟩
        have e : (fun w' => ∃ pa' pc', Value.slice pa n.length pc = .slice pa' n.length pc' ∧ Cl w b2 b1 (jc ⟨a1, a2, a3, a4, ng, n, d⟩ (.slice an n.length anc) (.slice ad d.length adc)) [(.slice pa' n.length pc', n)] w') = Cl w b2 b1 (jc ⟨a1, a2, a3, a4, ng, n, d⟩ (.slice an n.length anc) (.slice ad d.length adc)) [(.slice pa n.length pc, n)] := by
          funext w'
          refine propext ⟨?_, fun h => ⟨pa, pc, rfl, h⟩⟩
          rintro ⟨pa', pc', he, h⟩
          cases he
          exact h
        rw [e]
        clear e wq
        go_simp)
      (
        refine lAny_pick' 5 [8, 9] rfl (by kernel_rfl) (by kernel_rfl) ?_
        repeat (apply pRow_plain
                · exact rfl
                · exact rfl
                · intro wg hg
                  ((skip))
                  go_simp
                  first
                    | exact rfl
                    | exact Below.refl _ _
                    | exact ⟨Below.refl _ _, rfl⟩
                    | ((fail))
                intro K hK
                go_simp
                refine hK _ ?_
                clear hK K)
        refine pRow_nil ?_
        refine lAny_step [7] (by kernel_rfl) (by simp) fun k hk => ?_
        obtain rfl : k = 7 := by simpa using hk
        refine lOp_special' rfl (fun u w' => ∃ qa qc, u = .slice qa d.length qc ∧ Cl w b2 b1 (jc ⟨a1, a2, a3, a4, ng, n, d⟩ (.slice an n.length anc) (.slice ad d.length adc)) [(.slice qa d.length qc, d), (.slice pa n.length pc, n)] w') rfl ?_ (fun u w' h => by obtain ⟨_, _, _, h⟩ := h; exact h.below) ?_ ?_
        · rintro u w1 w2 ⟨qa, qc, rfl, h⟩ hb
          exact ⟨qa, qc, rfl, h.grow hb⟩
        · intro wg hg
          go_simp
          with_reducible refine (sclone_as (HD.out.below hg.below (Nat.le_refl _)) HLD.out).mono ?_
          rintro e w' ⟨qa, qc, rfl, hr, hb⟩
          exact ⟨_, rfl, qa, qc, rfl, hg.more hb hr⟩
        rintro u ⟨wq, qa, qc, rfl, -⟩
        have e : (fun w' => ∃ qa' qc', Value.slice qa d.length qc = .slice qa' d.length qc' ∧ Cl w b2 b1 (jc ⟨a1, a2, a3, a4, ng, n, d⟩ (.slice an n.length anc) (.slice ad d.length adc)) [(.slice qa' d.length qc', d), (.slice pa n.length pc, n)] w') = Cl w b2 b1 (jc ⟨a1, a2, a3, a4, ng, n, d⟩ (.slice an n.length anc) (.slice ad d.length adc)) [(.slice qa d.length qc, d), (.slice pa n.length pc, n)] := by
          funext w'
          refine propext ⟨?_, fun h => ⟨qa, qc, rfl, h⟩⟩
          rintro ⟨qa', qc', he, h⟩
          cases he
          exact h
        rw [e]
        clear e wq
        go_simp
        refine lAny_step [10] (by kernel_rfl) (by simp) fun k hk => ?_
        obtain rfl : k = 10 := by simpa using hk
        refine lOp_call undef rfl rfl (T' := Cl w b2 b1 (jc ⟨a1, a2, a3, a4, ng, n, d⟩ (.slice pa n.length pc) (.slice ad d.length adc)) [(.slice qa d.length qc, d), (.slice pa n.length pc, n)]) (fun _ _ h hb => h.grow hb) (fun _ h => h.below) ?_ ?_
        · intro wg hg
          obtain ⟨e0, e1, e2, e3, e4, e5, e6, f0, f1, f2, f3, f4, f5, f6, el⟩ := hg.mm.lay7 1 rfl
          have HK := hg.put 4 (.slice pa n.length pc)
          go_simp
          try first
            | exact HK
            | exact ⟨rfl, HK⟩
        go_simp
        refine lAny_pick' 1 [11, 12] rfl (by kernel_rfl) (by kernel_rfl) ?_
        repeat (apply pRow_plain
                · exact rfl
                · exact rfl
                · intro wg hg
                  ((skip))
                  go_simp
                  first
                    | exact rfl
                    | exact Below.refl _ _
                    | exact ⟨Below.refl _ _, rfl⟩
                    | ((fail))
                intro K hK
                go_simp
                refine hK _ ?_
                clear hK K)
        refine pRow_nil ?_
        refine lAny_step [13] (by kernel_rfl) (by simp) fun k hk => ?_
        obtain rfl : k = 13 := by simpa using hk
        refine lOp_call undef rfl rfl (T' := Cl w b2 b1 (jc ⟨a1, a2, a3, a4, ng, n, d⟩ (.slice pa n.length pc) (.slice qa d.length qc)) [(.slice qa d.length qc, d), (.slice pa n.length pc, n)]) (fun _ _ h hb => h.grow hb) (fun _ h => h.below) ?_ ?_
        · intro wg hg
          obtain ⟨e0, e1, e2, e3, e4, e5, e6, f0, f1, f2, f3, f4, f5, f6, el⟩ := hg.mm.lay7 1 rfl
          have HK := hg.put 5 (.slice qa d.length qc)
          go_simp
          try first
            | exact HK
            | exact ⟨rfl, HK⟩
        go_simp
        refine lAny_end (by kernel_rfl) ?_
        intro w5 hq
        have HQ := Lib.hid hq
        clear hq
        obtain ⟨e0, e1, e2, e3, e4, e5, e6, -⟩ := HQ.out.mm.lay7 1 rfl
        obtain ⟨c0, c1, c2, c3, c4, c5, c6, f0, f1, f2, f3, f4, f5, f6, bl⟩ := HQ.out.mm.lay7 0 rfl
        go_wp2_with fail
        have HM7 := HQ.out.mm.put7 0 rfl (.int .i64 a1) (.int .i64 a2) (.int .i64 a3) (.bool ng) (.slice pa n.length pc) (.slice qa d.length qc) (.int .i64 a4)
        have k3 := Ru.setAll (show (29 : TypeId) ≠ 94 by decide) [.int .i64 a1, .int .i64 a2, .int .i64 a3, .bool ng, .slice pa n.length pc, .slice qa d.length qc, .int .i64 a4] 0 w5 (HQ.out.ru (.slice pa n.length pc, n) (by simp)) HQ.out.t2
        have k4 := Ru.setAll (show (29 : TypeId) ≠ 94 by decide) [.int .i64 a1, .int .i64 a2, .int .i64 a3, .bool ng, .slice pa n.length pc, .slice qa d.length qc, .int .i64 a4] 0 w5 (HQ.out.ru (.slice qa d.length qc, d) (by simp)) HQ.out.t2
        simp only [setAll, Nat.zero_add, Nat.reduceAdd] at k3 k4
        clear c0 c1 c2 c3 c4 c5 c6 f0 f1 f2 f3 f4 f5 f6 bl e0 e1 e2 e3 e4 e5 e6
        refine bodyPost_ret (v := jv ⟨a1, a2, a3, a4, ng, n, d⟩ (.slice pa n.length pc) (.slice qa d.length qc)) ?_ rfl ⟨pa, pc, qa, qc, rfl, k3, k4, HM7.only.below (by simp) (Nat.le_refl _)⟩
        obtain ⟨d0, d1, d2, d3, d4, d5, d6, -⟩ := HM7.lay7 0 rfl
        simp [results, Tryz.results35, go_sem, d0, d1, d2, d3, d4, d5, d6])
  · (
      refine lOp_call (.slice ad d.length adc) rfl rfl (T' := Cl w b2 b1 (jc ⟨a1, a2, a3, a4, ng, n, d⟩ (.slice an n.length anc) (.slice ad d.length adc)) []) (fun _ _ h hb => h.grow hb) (fun _ h => h.below) ?_ ?_
      · intro wg hg
        obtain ⟨e0, e1, e2, e3, e4, e5, e6, -⟩ := hg.mm.lay7 1 rfl
        have HK := hg
        go_simp
        try first
          | exact HK
          | exact ⟨rfl, HK⟩
      go_simp)
    refine lAny_step [2] (by kernel_rfl) (by simp) fun k hk => ?_
    obtain rfl : k = 2 := by simpa using hk
    (
      refine lOp_call (.slice an n.length anc) rfl rfl (T' := Cl w b2 b1 (jc ⟨a1, a2, a3, a4, ng, n, d⟩ (.slice an n.length anc) (.slice ad d.length adc)) []) (fun _ _ h hb => h.grow hb) (fun _ h => h.below) ?_ ?_
      · intro wg hg
        obtain ⟨e0, e1, e2, e3, e4, e5, e6, -⟩ := hg.mm.lay7 1 rfl
        have HK := hg
        go_simp
        try first
          | exact HK
          | exact ⟨rfl, HK⟩
      go_simp)
    refine lAny_step [3] (by kernel_rfl) (by simp) fun k hk => ?_
    obtain rfl : k = 3 := by simpa using hk
    (
      refine lOp_special' rfl (fun u w' => ∃ pa pc, u = .slice pa n.length pc ∧ Cl w b2 b1 (jc ⟨a1, a2, a3, a4, ng, n, d⟩ (.slice an n.length anc) (.slice ad d.length adc)) [(.slice pa n.length pc, n)] w') rfl ?_ (fun u w' h => by obtain ⟨_, _, _, h⟩ := h; exact h.below) ?_ ?_
      · rintro u w1 w2 ⟨pa, pc, rfl, h⟩ hb
        exact ⟨pa, pc, rfl, h.grow hb⟩
      · intro wg hg
        go_simp
        with_reducible refine (sclone_as (HN.out.below hg.below (Nat.le_refl _)) HLN.out).mono ?_
        rintro e w' ⟨pa, pc, rfl, hr, hb⟩
        exact ⟨_, rfl, pa, pc, rfl, hg.more hb hr⟩
      rintro u ⟨wq, pa, pc, rfl, -⟩
      have e : (fun w' => ∃ pa' pc', Value.slice pa n.length pc = .slice pa' n.length pc' ∧ Cl w b2 b1 (jc ⟨a1, a2, a3, a4, ng, n, d⟩ (.slice an n.length anc) (.slice ad d.length adc)) [(.slice pa' n.length pc', n)] w') = Cl w b2 b1 (jc ⟨a1, a2, a3, a4, ng, n, d⟩ (.slice an n.length anc) (.slice ad d.length adc)) [(.slice pa n.length pc, n)] := by
        funext w'
        refine propext ⟨?_, fun h => ⟨pa, pc, rfl, h⟩⟩
        rintro ⟨pa', pc', he, h⟩
        cases he
        exact h
      rw [e]
      clear e wq
      go_simp)
    (
      refine lAny_pick' 5 [8, 9] rfl (by kernel_rfl) (by kernel_rfl) ?_
      repeat (apply pRow_plain
              · exact rfl
              · exact rfl
              · intro wg hg
                ((skip))
                go_simp
                first
                  | exact rfl
                  | exact Below.refl _ _
                  | exact ⟨Below.refl _ _, rfl⟩
                  | ((fail))
              intro K hK
              go_simp
              refine hK _ ?_
              clear hK K)
      refine pRow_nil ?_
      refine lAny_step [7] (by kernel_rfl) (by simp) fun k hk => ?_
      obtain rfl : k = 7 := by simpa using hk
      refine lOp_special' rfl (fun u w' => ∃ qa qc, u = .slice qa d.length qc ∧ Cl w b2 b1 (jc ⟨a1, a2, a3, a4, ng, n, d⟩ (.slice an n.length anc) (.slice ad d.length adc)) [(.slice qa d.length qc, d), (.slice pa n.length pc, n)] w') rfl ?_ (fun u w' h => by obtain ⟨_, _, _, h⟩ := h; exact h.below) ?_ ?_
      · rintro u w1 w2 ⟨qa, qc, rfl, h⟩ hb
        exact ⟨qa, qc, rfl, h.grow hb⟩
      · intro wg hg
        go_simp
        with_reducible refine (sclone_as (HD.out.below hg.below (Nat.le_refl _)) HLD.out).mono ?_
        rintro e w' ⟨qa, qc, rfl, hr, hb⟩
        exact ⟨_, rfl, qa, qc, rfl, hg.more hb hr⟩
      rintro u ⟨wq, qa, qc, rfl, -⟩
      have e : (fun w' => ∃ qa' qc', Value.slice qa d.length qc = .slice qa' d.length qc' ∧ Cl w b2 b1 (jc ⟨a1, a2, a3, a4, ng, n, d⟩ (.slice an n.length anc) (.slice ad d.length adc)) [(.slice qa' d.length qc', d), (.slice pa n.length pc, n)] w') = Cl w b2 b1 (jc ⟨a1, a2, a3, a4, ng, n, d⟩ (.slice an n.length anc) (.slice ad d.length adc)) [(.slice qa d.length qc, d), (.slice pa n.length pc, n)] := by
        funext w'
        refine propext ⟨?_, fun h => ⟨qa, qc, rfl, h⟩⟩
        rintro ⟨qa', qc', he, h⟩
        cases he
        exact h
      rw [e]
      clear e wq
      go_simp
      refine lAny_step [10] (by kernel_rfl) (by simp) fun k hk => ?_
      obtain rfl : k = 10 := by simpa using hk
      refine lOp_call undef rfl rfl (T' := Cl w b2 b1 (jc ⟨a1, a2, a3, a4, ng, n, d⟩ (.slice pa n.length pc) (.slice ad d.length adc)) [(.slice qa d.length qc, d), (.slice pa n.length pc, n)]) (fun _ _ h hb => h.grow hb) (fun _ h => h.below) ?_ ?_
      · intro wg hg
        obtain ⟨e0, e1, e2, e3, e4, e5, e6, f0, f1, f2, f3, f4, f5, f6, el⟩ := hg.mm.lay7 1 rfl
        have HK := hg.put 4 (.slice pa n.length pc)
        go_simp
        try first
          | exact HK
          | exact ⟨rfl, HK⟩
      go_simp
      refine lAny_pick' 1 [11, 12] rfl (by kernel_rfl) (by kernel_rfl) ?_
      repeat (apply pRow_plain
              · exact rfl
              · exact rfl
              · intro wg hg
                ((skip))
                go_simp
                first
                  | exact rfl
                  | exact Below.refl _ _
                  | exact ⟨Below.refl _ _, rfl⟩
                  | ((fail))
              intro K hK
              go_simp
              refine hK _ ?_
              clear hK K)
      refine pRow_nil ?_
      refine lAny_step [13] (by kernel_rfl) (by simp) fun k hk => ?_
      obtain rfl : k = 13 := by simpa using hk
      refine lOp_call undef rfl rfl (T' := Cl w b2 b1 (jc ⟨a1, a2, a3, a4, ng, n, d⟩ (.slice pa n.length pc) (.slice qa d.length qc)) [(.slice qa d.length qc, d), (.slice pa n.length pc, n)]) (fun _ _ h hb => h.grow hb) (fun _ h => h.below) ?_ ?_
      · intro wg hg
        obtain ⟨e0, e1, e2, e3, e4, e5, e6, f0, f1, f2, f3, f4, f5, f6, el⟩ := hg.mm.lay7 1 rfl
        have HK := hg.put 5 (.slice qa d.length qc)
        go_simp
        try first
          | exact HK
          | exact ⟨rfl, HK⟩
      go_simp
      refine lAny_end (by kernel_rfl) ?_
      intro w5 hq
      have HQ := Lib.hid hq
      clear hq
      obtain ⟨e0, e1, e2, e3, e4, e5, e6, -⟩ := HQ.out.mm.lay7 1 rfl
      obtain ⟨c0, c1, c2, c3, c4, c5, c6, f0, f1, f2, f3, f4, f5, f6, bl⟩ := HQ.out.mm.lay7 0 rfl
      go_wp2_with fail
      have HM7 := HQ.out.mm.put7 0 rfl (.int .i64 a1) (.int .i64 a2) (.int .i64 a3) (.bool ng) (.slice pa n.length pc) (.slice qa d.length qc) (.int .i64 a4)
      have k3 := Ru.setAll (show (29 : TypeId) ≠ 94 by decide) [.int .i64 a1, .int .i64 a2, .int .i64 a3, .bool ng, .slice pa n.length pc, .slice qa d.length qc, .int .i64 a4] 0 w5 (HQ.out.ru (.slice pa n.length pc, n) (by simp)) HQ.out.t2
      have k4 := Ru.setAll (show (29 : TypeId) ≠ 94 by decide) [.int .i64 a1, .int .i64 a2, .int .i64 a3, .bool ng, .slice pa n.length pc, .slice qa d.length qc, .int .i64 a4] 0 w5 (HQ.out.ru (.slice qa d.length qc, d) (by simp)) HQ.out.t2
      simp only [setAll, Nat.zero_add, Nat.reduceAdd] at k3 k4
      clear c0 c1 c2 c3 c4 c5 c6 f0 f1 f2 f3 f4 f5 f6 bl e0 e1 e2 e3 e4 e5 e6
      refine bodyPost_ret (v := jv ⟨a1, a2, a3, a4, ng, n, d⟩ (.slice pa n.length pc) (.slice qa d.length qc)) ?_ rfl ⟨pa, pc, qa, qc, rfl, k3, k4, HM7.only.below (by simp) (Nat.le_refl _)⟩
      obtain ⟨d0, d1, d2, d3, d4, d5, d6, -⟩ := HM7.lay7 0 rfl
      simp [results, Tryz.results35, go_sem, d0, d1, d2, d3, d4, d5, d6])
/-- an entry: a job, its risk's slices, its marks -/
structure En where
  j : Jb
  na : Option Addr
  nc : Nat
  da : Option Addr
  dc : Nat
  run : Bool
  held : Bool
abbrev En.num (x : En) : Value := .slice x.na x.j.n.length x.nc
abbrev En.den (x : En) : Value := .slice x.da x.j.d.length x.dc
abbrev En.key (x : En) : Ky := (x.j.vol, x.j.frag)
abbrev ec (x : En) : Array Value := #[.int .i64 x.j.vol, .int .i64 x.j.frag, .int .i64 x.j.cls, .bool x.j.neg, x.num, x.den, .int .i64 x.j.rem, .bool x.run, .bool x.held]
def eE : Enc En := ⟨9, fun x => (ec x).toList, fun _ => rfl, by decide, fun x v hv => by simp at hv; rcases hv with rfl | rfl | rfl | rfl | rfl | rfl | rfl | rfl | rfl <;> rfl⟩

/-- the queue at qb: its slots, and its entries L in a row of its own, from block B on -/
structure Qp (B : Nat) (qb : Nat) (slots : Int) (L : List En) (w : World) : Prop where
  c0 : w.cell? ⟨qb, 0, none⟩ = some (.int .i64 slots)
  row : ∃ v, w.cell? ⟨qb, 1, none⟩ = some v ∧ World.ownsRow w B 76 9 v L.length (eE.flat L)
  thaw : Thaw w qb
  ty : TyB w qb 68
  base : B ≤ qb
  frac : ∀ x ∈ L, Ru w x.num x.j.n ∧ Ru w x.den x.j.d
  ok : ∀ x ∈ L, OkJ x.j
namespace Qp
variable {B qb : Nat} {slots : Int} {L : List En} {w w' : World}
theorem keep (h : Qp B qb slots L w) (hb : Below w.heap.size w w') : Qp B qb slots L w' := by
  have hl := h.ty.lt
  obtain ⟨v, h1, h2⟩ := h.row
  exact ⟨(hb.cell (p := ⟨qb, 0, none⟩) hl).trans h.c0, ⟨v, (hb.cell (p := ⟨qb, 1, none⟩) hl).trans h1, owns_below h2 hb⟩, h.thaw.below hb hl, h.ty.keep hb, h.base, fun x hx => ⟨(h.frac x hx).1.keep hb, (h.frac x hx).2.keep hb⟩, h.ok⟩
/-- the list reads as L -/
theorem list (h : Qp B qb slots L w) (hl : L.length ≤ 1000000) : ∃ a cap, w.cell? ⟨qb, 1, none⟩ = some (.slice a L.length cap) ∧ Rd eE w (.slice a L.length cap) L := by
  obtain ⟨v, h1, h2⟩ := h.row
  obtain ⟨a, cap, rfl⟩ := owns_val h2
  refine ⟨a, cap, h1, a, cap, rfl, ?_, ?_⟩
  · rcases h2.2 with ⟨h0, h3⟩ | ⟨g', cap', cur, he, _, _, h4, h5, _⟩
    · have e : cap = 0 := (Value.slice.inj h0).2.2
      exact ⟨by omega, by omega⟩
    · cases he; unfold maxLen at h5; exact ⟨h4, h5⟩
  · by_cases h0 : L = []
    · exact .inl h0
    · right
      have hne : L.length ≠ 0 := fun q => h0 (List.eq_nil_of_length_eq_zero q)
      rcases h2.2 with ⟨_, hz⟩ | ⟨g, cap', cur, e, _⟩
      · exact absurd hz hne
      · cases e
        exact ⟨g, 0, rfl, (h2.lt g rfl).2, fun j u hu => by have := h2.cells rfl j u hu; rwa [add_off] at this⟩
end Qp
theorem _root_.Go.Proofs.YtgnmolleaengaaaGreat.Rd.entryV {w : World} {a : Option Addr} {n cap : Nat} {L : List En} (h : Rd eE w (.slice a n cap) L) {i : Nat} {x : En} (hi : L[i]? = some x) :
    ∃ b off, a = some ⟨b, off, none⟩ ∧ b < w.heap.size ∧ ∀ wx, Below w.heap.size w wx → wx.cell? ⟨b, off + i * 9, none⟩ = some (.int .i64 x.j.vol) ∧ wx.cell? ⟨b, off + i * 9 + 1, none⟩ = some (.int .i64 x.j.frag) ∧ wx.cell? ⟨b, off + i * 9 + 2, none⟩ = some (.int .i64 x.j.cls) ∧ wx.cell? ⟨b, off + i * 9 + 3, none⟩ = some (.bool x.j.neg) ∧ wx.cell? ⟨b, off + i * 9 + 4, none⟩ = some x.num ∧ wx.cell? ⟨b, off + i * 9 + 5, none⟩ = some x.den ∧ wx.cell? ⟨b, off + i * 9 + 6, none⟩ = some (.int .i64 x.j.rem) ∧ wx.cell? ⟨b, off + i * 9 + 7, none⟩ = some (.bool x.run) ∧ wx.cell? ⟨b, off + i * 9 + 8, none⟩ = some (.bool x.held) := by
  obtain ⟨b, off, e, hb, hc⟩ := h.cell hi
  refine ⟨b, off, e, hb, fun wx hw => ⟨?_, ?_, ?_, ?_, ?_, ?_, ?_, ?_, ?_⟩⟩
  · exact (hw.cell (p := ⟨b, off + i * 9, none⟩) hb).trans (hc 0 _ rfl)
  · exact (hw.cell (p := ⟨b, off + i * 9 + 1, none⟩) hb).trans (hc 1 _ rfl)
  · exact (hw.cell (p := ⟨b, off + i * 9 + 2, none⟩) hb).trans (hc 2 _ rfl)
  · exact (hw.cell (p := ⟨b, off + i * 9 + 3, none⟩) hb).trans (hc 3 _ rfl)
  · exact (hw.cell (p := ⟨b, off + i * 9 + 4, none⟩) hb).trans (hc 4 _ rfl)
  · exact (hw.cell (p := ⟨b, off + i * 9 + 5, none⟩) hb).trans (hc 5 _ rfl)
  · exact (hw.cell (p := ⟨b, off + i * 9 + 6, none⟩) hb).trans (hc 6 _ rfl)
  · exact (hw.cell (p := ⟨b, off + i * 9 + 7, none⟩) hb).trans (hc 7 _ rfl)
  · exact (hw.cell (p := ⟨b, off + i * 9 + 8, none⟩) hb).trans (hc 8 _ rfl)

end V
end Go.Proofs.YtgnmolleaengaaaGreat
