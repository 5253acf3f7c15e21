/- The walks of cut and put. -/
import Derived.Test.YtnhpjmjinchamaaRa
import Derived.Test.YtnhpjmjinchamaaAp
set_option linter.unusedVariables false
set_option linter.unusedSimpArgs false
set_option linter.unnecessarySimpa false
namespace Go.Proofs.Ytnhpjmjinchamaa
open Go Go.RowKit

theorem info46 : (Try.prog.info? 46).map (fun i => (i.zero, i.size, i.bytes)) = some (some zeroL, 6, 48) := by kernel_rfl
theorem elt37 : Elt 37 46 6 48 := by
  obtain ⟨i, hi, hz0, hz1, hz2⟩ := info_parts info46
  exact ⟨by kernel_rfl, ⟨i, zeroL, hi, hz0, hz1, hz2, rfl⟩, by decide, by decide⟩
theorem flat_one (L : List Ls) : ∀ u ∈ flat L, u.oneCell' = true := by
  intro u hu
  unfold flat at hu
  obtain ⟨l, _, hu⟩ := List.mem_flatMap.1 hu
  simp at hu
  rcases hu with rfl | rfl | rfl | rfl | rfl | rfl <;> rfl
theorem flat_take (L : List Ls) (k : Nat) : (flat L).take (k * 6) = flat (L.take k) := by
  induction L generalizing k with
  | nil => simp [flat]
  | cons l L ih =>
    cases k with
    | zero => simp [flat]
    | succ k =>
      have := ih k
      unfold flat at *
      rw [List.flatMap_cons, List.take_succ_cons, List.flatMap_cons, ← this]
      rw [List.take_append, List.take_of_length_le (show (lc l).toList.length ≤ (k + 1) * 6 by show 6 ≤ (k + 1) * 6; omega)]
      rw [show (k + 1) * 6 - (lc l).toList.length = k * 6 by show (k + 1) * 6 - 6 = k * 6; omega]
theorem flat_drop (L : List Ls) (k : Nat) : (flat L).drop (k * 6) = flat (L.drop k) := by
  have h1 := List.take_append_drop (k * 6) (flat L)
  have h2 : flat L = flat (L.take k) ++ flat (L.drop k) := by rw [← flat_append, List.take_append_drop]
  rw [flat_take] at h1
  rw [h2] at h1
  exact List.append_cancel_left (by rw [h2]; exact h1)

/-- the row does not lie in block b -/
def Sep (w : World) (rb b : Nat) : Prop := ∀ vL, w.cell? ⟨rb, 96, none⟩ = some vL → vL.ownBlock ≠ some b
theorem Sep.below {w w' : World} {B rb b : Nat} {R : Rf} (h : Sep w rb b) (hr : RfAt w B rb R) (hb : Below w.heap.size w w') : Sep w' rb b := fun vL hv => h vL ((hb.cell (p := ⟨rb, 96, none⟩) hr.lt).symm.trans hv)

/-- the reference's table with a new row -/
theorem RfAt.row' {w W : World} {B rb : Nat} {R : Rf} {L' : List Ls} {u : Value} (h : RfAt w B rb R) (hb : Below w.heap.size w W) (ho : W.ownsRow w.heap.size 46 6 u L'.length (flat L')) (hl : L'.length ≤ 1000) :
    RfAt (W.setCell ⟨rb, 96, none⟩ u) B rb { R with L := L' } ∧ Only [rb] w (W.setCell ⟨rb, 96, none⟩ u) ∧ ∀ b, b < w.heap.size → Sep (W.setCell ⟨rb, 96, none⟩ u) rb b := by
  have h' := h.below hb
  have hne : u.ownBlock ≠ some rb := fun q => by have := (ho.lt rb q).1; have := h.lt; omega
  obtain ⟨vL, h1, _, _⟩ := h'.row
  have oth : ∀ i, i ≠ 96 → (W.setCell ⟨rb, 96, none⟩ u).cell? ⟨rb, i, none⟩ = W.cell? ⟨rb, i, none⟩ := fun i hi => World.cell?_setCell_other _ _ _ _ (by simpa using fun h => hi h.symm)
  refine ⟨⟨h.base, by simpa using h'.lt, fun v f hv hf => (oth _ (by omega)).trans (h'.giv v f hv hf), ⟨u, World.cell?_setCell_same _ _ _ h1, ?_, hne⟩, (oth _ (by omega)).trans h'.num, (oth _ (by omega)).trans h'.cnt, h'.thaw.setCell _ _, hl⟩, (Only.of_below _ hb).setCell (.inl (by simp)) _ _, fun b hb vL hv q => ?_⟩
  · refine owns_same (owns_mono ho (Nat.le_of_lt (Nat.lt_of_le_of_lt h.base h.lt))) fun k hk => Below.heap_setCell _ _ _ _ ?_
    intro e
    exact hne (by rw [hk]; exact congrArg some e)
  · rw [World.cell?_setCell_same _ _ _ h1] at hv
    cases hv
    have := (ho.lt b q).1
    omega

def RefPost (w : World) (B rb : Nat) (R' : Rf) (v : Value) (e : Ending) (w' : World) : Prop := e = .returned v ∧ RfAt w' B rb R' ∧ Only [rb] w w' ∧ ∀ b, b < w.heap.size → Sep w rb b → Sep w' rb b

set_option maxRecDepth 20000 in
set_option maxHeartbeats 2000000 in
theorem cut_any {w : World} {B rb : Nat} {R : Rf} (h : RfAt w B rb R) (i : Nat) (hi : i < R.L.length) : Calls Try.prog 54 #[.pointer (some ⟨rb, 0, none⟩), .int .i64 i] w (RefPost w B rb { R with L := R.L.take i ++ R.L.drop (i + 1) } (.tuple #[])) := by
  obtain ⟨vL, c96, hrow, -⟩ := h.row
  have hrow2 := hrow
  rcases hrow.2 with ⟨rfl, h0⟩ | ⟨g, cap, cur, rfl, hB, hg, hnc, hcm, -⟩
  · omega
  have hsh := h.short
  obtain ⟨n, hn⟩ : ∃ n, n = R.L.length := ⟨_, rfl⟩
  rw [← hn] at c96 hsh hnc hi
  have hlt := h.lt
  have hth := h.thaw 96
  have HT := Lib.hid h
  have HR : Hid (w.ownsRow B 46 6 (.slice (some ⟨g, 0, none⟩) n cap) n (flat R.L)) := by
    have := hrow2
    unfold Rows at this
    rw [← hn] at this
    exact Lib.hid this
  have HN := Lib.hid hn
  unfold maxLen at hcm
  clear h hrow hn hrow2 hg
  have HS1 := Lib.hid (show Src w (.slice (some ⟨g, 0, none⟩) i cap) 6 i (flat (R.L.take i)) by
    rw [← flat_take]
    exact src_take HR.out (flat_one _) (by omega) cap)
  have HS2 := Lib.hid (show i + 1 < n → Src w (.slice (some ⟨g, (i + 1) * 6, none⟩) (n - (i + 1)) (cap - (i + 1))) 6 (n - (i + 1)) (flat (R.L.drop (i + 1))) by
    intro hlt2
    rw [← flat_drop]
    exact src_drop HR.out (flat_one _) hlt2 _)
  have hic : i ≤ cap := by omega
  have hin : i + 1 ≤ n := by omega
  have hin2 : (i : Int) + 1 ≤ (n : Int) := by omega
  have hw : IntKind.i64.wrap ((i : Int) + 1) = (i : Int) + 1 := IntWalk.i64_in _ (by omega)
  have hw0 : (0 : Int) ≤ (i : Int) + 1 := by omega
  have hwn : ((i : Int) + 1).toNat = i + 1 := by omega
  have HL' : Hid ((R.L.take i ++ R.L.drop (i + 1)).length = i + (n - (i + 1)) ∧ flat (R.L.take i ++ R.L.drop (i + 1)) = ([] ++ flat (R.L.take i)) ++ flat (R.L.drop (i + 1))) := by
    have := HN.out
    refine ⟨?_, by rw [flat_append]; simp⟩
    rw [List.length_append, List.length_take, List.length_drop]
    omega
  have HE : Hid (i + 1 = n → R.L.drop (i + 1) = []) := fun e => List.drop_of_length_le (by have := HN.out; omega)
  obtain ⟨sa, hif⟩ : ∃ sa, (if cap = i + 1 then some (⟨g, 0, none⟩ : Addr) else some ⟨g, (i + 1) * 6, none⟩) = sa := ⟨_, rfl⟩
  have HS3 := Lib.hid (show Src w (.slice sa (n - (i + 1)) (cap - (i + 1))) 6 (n - (i + 1)) (flat (R.L.drop (i + 1))) by
    by_cases hc : i + 1 < n
    · rw [← hif, if_neg (by omega)]
      exact HS2.out hc
    · rw [HE.out (by omega), show n - (i + 1) = 0 by omega]
      exact src_none _ _)
  have hm2 : i + (n - (i + 1)) ≤ 10000 := by omega
  have hm1 : 0 + i ≤ 10000 := by omega
  clear hB hcm hnc hi hsh
  go_enter Try.func54, Try.ntmps54
  refine wp_region_pick_tail (Below w.heap.size w) (AS w 46 6 (.slice none 0 0) 0 [] []) [0, 1, 2, 3, 4, 5, 6, 8, 9, 10, 11, 12, 13, 14] 2 16 (by kernel_rfl) ?_ AS.stable AS.base (AS.start w 46 6) ?_
  · kernel_rfl
  repeat (apply pRow_plain
          · exact rfl
          · exact rfl
          · intro wg hg
            ((have d96 := (hg.cell (p := ⟨rb, 96, none⟩) hlt).trans c96))
            go_simp
            first
              | exact rfl
              | exact Below.refl _ _
              | exact ⟨Below.refl _ _, rfl⟩
              | ((fail))
          intro K hK
          go_simp
          refine hK _ ?_
          clear hK K)
  refine pRow_nil ?_
  refine lAnyL_step [7] ?_ (by simp) (by decide) ?_
  · kernel_rfl
  intro j hj
  obtain rfl : j = 7 := by simpa using hj
  refine lOp_app elt37 _ _ rfl rfl rfl rfl rfl (fun wg hg => HS1.out.below hg.below) hm1 ?_
  intro u1
  go_simp
  refine lAnyL_step [15] ?_ (by simp) (by decide) ?_
  · kernel_rfl
  intro j hj
  obtain rfl : j = 15 := by simpa using hj
  refine lOp_app elt37 _ _ rfl rfl rfl rfl rfl (fun wg hg => HS3.out.below hg.below) hm2 ?_
  intro u2
  go_simp
  refine ⟨?_, ?_⟩
  · kernel_rfl
  intro wg hg
  obtain ⟨ua, ucap, rfl⟩ := owns_val hg.row
  have HG := Lib.hid hg
  have d96 := (hg.below.cell (p := ⟨rb, 96, none⟩) hlt).trans c96
  have e96 := (hg.below.frozen (p := ⟨rb, 96, none⟩) hlt).trans hth
  clear hg
  go_wp2
  go_end0
  obtain ⟨q1, q2⟩ := HL'.out
  have ho := HG.out.row
  rw [← q1] at ho
  simp only [List.nil_append] at q2
  rw [← q2] at ho
  rw [q1] at ho
  have hlen : (R.L.take i ++ R.L.drop (i + 1)).length ≤ 1000 := by have := HT.out.short; simp; omega
  rw [← q1] at ho ⊢
  obtain ⟨k1, k2, k3⟩ := HT.out.row' HG.out.below ho hlen
  exact ⟨rfl, k1, k2, fun b hb _ => k3 b hb⟩
end Go.Proofs.Ytnhpjmjinchamaa
