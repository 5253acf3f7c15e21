/- The walk of RouteFleets. -/
import Derived.Test.YtkjamafpohnflaaF1
import Derived.Test.YtkjamafpohnflaaX1
set_option linter.unusedVariables false
set_option linter.unusedSimpArgs false
set_option linter.unnecessarySimpa false
namespace Go.Proofs.Ytkjamafpohnflaa
open Go Go.RowKit Go.Mem

section
variable {P : Program} {ops : Array Oper} {S : World → Prop}
theorem oRow_plainG {Q : Act → World → Prop} {T : World → Prop} {a : Act} {i : Nat} {o : Oper} {is : List (Nat × Bool)} (v : Value) (hi : ops[i]? = some o) (hw : Region.wanted o (yielded ops a.tmps) = true)
    (hv : ∀ w, S w → bUpon P v w ((execOp a.eval o).run P w)) (hk : ∀ K : Act → Prop, (∀ a, oRow P ops S Q is T a → K a) → K (a.put o.dst v)) : oRow P ops S Q ((i, false) :: is) T a :=
  ⟨o, hi, v, .inl ⟨hw, hv⟩, hk _ (fun _ h => h)⟩
theorem oRow_stepG {Q : Act → World → Prop} {T : World → Prop} {a : Act} {i : Nat} {o : Oper} {is : List (Nat × Bool)} (V : Value → World → Prop) (hi : ops[i]? = some o) (hw : Region.wanted o (yielded ops a.tmps) = true) (h1 : ∀ u, Stable (V u)) (h2 : ∀ u w, V u w → S w)
    (hv : ∀ w, T w → sUpon P V ((execOp a.eval o).run P w)) (hk : ∀ u, (∃ w, V u w) → ∀ K : Act → Prop, (∀ a, oRow P ops S Q is (V u) a → K a) → K (a.put o.dst u)) : oRow P ops S Q ((i, true) :: is) T a :=
  ⟨o, hi, V, ⟨h1, h2, hw, hv⟩, fun u hu => hk u hu _ (fun _ h => h)⟩
end

/-- one list has come, two have -/
def One (w1 : World) (L : List Int) (n : Nat) (u : Value) (w' : World) : Prop := (∃ p c, u = .slice p n c ∧ IntsAt w' (.slice p n c) L) ∧ Below w1.heap.size w1 w'
def Twoo (w1 : World) (L : List Int) (n : Nat) (v u : Value) (w' : World) : Prop := (IntsAt w' v L ∧ ∃ p c, u = .slice p n c ∧ IntsAt w' (.slice p n c) L) ∧ Below w1.heap.size w1 w'
def Tru (w1 : World) (u : Value) (w' : World) : Prop := u = .bool true ∧ Below w1.heap.size w1 w'
theorem One.stable (w1 : World) (L : List Int) (n : Nat) (u : Value) : Stable (One w1 L n u) := fun w w' ⟨⟨p, c, h1, h2⟩, h3⟩ hb => ⟨⟨p, c, h1, h2.keep hb⟩, h3.trans (hb.mono h3.size)⟩
theorem Twoo.stable (w1 : World) (L : List Int) (n : Nat) (v u : Value) : Stable (Twoo w1 L n v u) := fun w w' ⟨⟨h0, p, c, h1, h2⟩, h3⟩ hb => ⟨⟨h0.keep hb, p, c, h1, h2.keep hb⟩, h3.trans (hb.mono h3.size)⟩
theorem Tru.stable (w1 : World) (u : Value) : Stable (Tru w1 u) := fun w w' ⟨h1, h3⟩ hb => ⟨h1, h3.trans (hb.mono h3.size)⟩


set_option maxRecDepth 20000 in
set_option maxHeartbeats 8000000 in
theorem fleets_big (ex : Int) (la : Option Addr) (ll lc : Nat) (mp : Option Addr) (nm mc : Nat) (dp : Option Addr) (nd dc : Nat) (rp : Option Addr) (nr rc : Nat) (qa : Option Addr) (ql qc : Nat) (va : Option Addr) (vl vc : Nat) (w : World) (hg : 100 < nd ∨ 100 < nr ∨ 100 < nm) (hm1 : nd ≤ 9223372036854775807) (hm2 : nr ≤ 9223372036854775807) (hm3 : nm ≤ 9223372036854775807) :
    Calls Try.prog 6 #[.agg #[.int .i64 ex, .slice la ll lc, .slice mp nm mc, .slice dp nd dc, .slice rp nr rc, .slice qa ql qc, .slice va vl vc]] w fun e w' => e = .returned (.bool true) ∧ Below w.heap.size w w' := by
  have hg' : decide ((100 : Int) < (nd : Int)) = true ∨ (decide ((100 : Int) < (nd : Int)) = false ∧ decide ((100 : Int) < (nr : Int)) = true) ∨ (decide ((100 : Int) < (nd : Int)) = false ∧ decide ((100 : Int) < (nr : Int)) = false ∧ decide ((100 : Int) < (nm : Int)) = true) := by
    by_cases q : 100 < nd
    · left; simp; omega
    · right
      by_cases q2 : 100 < nr
      · left; constructor <;> (simp; omega)
      · right; refine ⟨?_, ?_, ?_⟩ <;> (simp; omega)
  clear hg
  rcases hg' with q | ⟨q, q2⟩ | ⟨q, q2, q3⟩
  all_goals
    go_enter Try.func6, Try.ntmps6
    go_wp2_with (first
      | (go_at_call 14; (with_reducible refine (awake_any _).mono ?_); rintro e w7 ⟨rfl, hb7⟩; have HB7 := Lib.hid ((below_alloc w (.cells #[.int .i64 ex, .slice la ll lc, .slice mp nm mc, .slice dp nd dc, .slice rp nr rc, .slice qa ql qc, .slice va vl vc] 42)).trans (hb7.mono (by simp))); clear hb7))
    go_ret
    exact ⟨rfl, HB7.out⟩
set_option maxRecDepth 20000 in
set_option maxHeartbeats 8000000 in
theorem fleets_law (ex : Int) (la : Option Addr) (ll lc : Nat) (mp : Option Addr) (nm mc : Nat) (dp : Option Addr) (nd dc : Nat) (rp : Option Addr) (nr rc : Nat) (qa : Option Addr) (ql qc : Nat) (va : Option Addr) (vl vc : Nat) (pa up mo ma po : Nat → Int) (w : World) (h : FlAt w dp rp mp nd nr nm pa up mo ma po) (hm1 : nd ≤ 9223372036854775807) (hm2 : nr ≤ 9223372036854775807) (hm3 : nm ≤ 9223372036854775807) :
    Calls Try.prog 6 #[.agg #[.int .i64 ex, .slice la ll lc, .slice mp nm mc, .slice dp nd dc, .slice rp nr rc, .slice qa ql qc, .slice va vl vc]] w fun e w' => e = .returned (.bool true) ∧ Below w.heap.size w w' := by
  by_cases hg : 100 < nd ∨ 100 < nr ∨ 100 < nm
  · exact fleets_big ex la ll lc mp nm mc dp nd dc rp nr rc qa ql qc va vl vc w hg hm1 hm2 hm3
  have h1 : nd ≤ 100 := by omega
  have h2 : nr ≤ 100 := by omega
  have h3 : nm ≤ 100 := by omega
  have q1 : decide ((100 : Int) < (nd : Int)) = false := by simp; omega
  have q2 : decide ((100 : Int) < (nr : Int)) = false := by simp; omega
  have q3 : decide ((100 : Int) < (nm : Int)) = false := by simp; omega
  have HB0 := Lib.hid (below_alloc w (.cells #[.int .i64 ex, .slice la ll lc, .slice mp nm mc, .slice dp nd dc, .slice rp nr rc, .slice qa ql qc, .slice va vl vc] 42))
  have HF := Lib.hid (h.below HB0.out (Nat.le_refl _))
  clear h hg
  obtain ⟨b0, hb0⟩ : ∃ x, w.heap.size = x := ⟨_, rfl⟩
  have HC := Lib.hid (show (w.alloc (.cells #[.int .i64 ex, .slice la ll lc, .slice mp nm mc, .slice dp nd dc, .slice rp nr rc, .slice qa ql qc, .slice va vl vc] 42)).cell? ⟨b0, 0, none⟩ = some (.int .i64 ex) ∧ (w.alloc (.cells #[.int .i64 ex, .slice la ll lc, .slice mp nm mc, .slice dp nd dc, .slice rp nr rc, .slice qa ql qc, .slice va vl vc] 42)).cell? ⟨b0, 1, none⟩ = some (.slice la ll lc) ∧ (w.alloc (.cells #[.int .i64 ex, .slice la ll lc, .slice mp nm mc, .slice dp nd dc, .slice rp nr rc, .slice qa ql qc, .slice va vl vc] 42)).cell? ⟨b0, 2, none⟩ = some (.slice mp nm mc) ∧ (w.alloc (.cells #[.int .i64 ex, .slice la ll lc, .slice mp nm mc, .slice dp nd dc, .slice rp nr rc, .slice qa ql qc, .slice va vl vc] 42)).cell? ⟨b0, 3, none⟩ = some (.slice dp nd dc) ∧ (w.alloc (.cells #[.int .i64 ex, .slice la ll lc, .slice mp nm mc, .slice dp nd dc, .slice rp nr rc, .slice qa ql qc, .slice va vl vc] 42)).cell? ⟨b0, 4, none⟩ = some (.slice rp nr rc) ∧ (w.alloc (.cells #[.int .i64 ex, .slice la ll lc, .slice mp nm mc, .slice dp nd dc, .slice rp nr rc, .slice qa ql qc, .slice va vl vc] 42)).cell? ⟨b0, 5, none⟩ = some (.slice qa ql qc) ∧ (w.alloc (.cells #[.int .i64 ex, .slice la ll lc, .slice mp nm mc, .slice dp nd dc, .slice rp nr rc, .slice qa ql qc, .slice va vl vc] 42)).cell? ⟨b0, 6, none⟩ = some (.slice va vl vc) by rw [← hb0]; simp)
  have HLT := Lib.hid (show b0 < (w.alloc (.cells #[.int .i64 ex, .slice la ll lc, .slice mp nm mc, .slice dp nd dc, .slice rp nr rc, .slice qa ql qc, .slice va vl vc] 42)).heap.size by rw [← hb0]; simp)
  have HBE0 := Lib.hid hb0
  clear hb0
  go_enter Try.func6, Try.ntmps6
  go_wp2_with fail
  rw [HBE0.out]
  generalize w.alloc (.cells #[.int .i64 ex, .slice la ll lc, .slice mp nm mc, .slice dp nd dc, .slice rp nr rc, .slice qa ql qc, .slice va vl vc] 42) = w1 at *
  have K17 := Lib.hid (fun wg (hg : Below w1.heap.size w1 wg) => tree_any ex la ll lc mp nm mc dp nd dc rp nr rc qa ql qc va vl vc pa up mo ma po wg (HF.out.below hg (Nat.le_refl _)) h1 h2 h3)
  have K18 := Lib.hid (fun wg (hg : Below w1.heap.size w1 wg) => rtree_any ex la ll lc mp nm mc dp nd dc rp nr rc qa ql qc va vl vc pa up mo ma po wg (HF.out.below hg (Nat.le_refl _)) h1 h2 h3)
  have K19 := Lib.hid (fun wg (hg : Below w1.heap.size w1 wg) => caps_any ex la ll lc mp nm mc dp nd dc rp nr rc qa ql qc va vl vc pa up mo ma po wg (HF.out.below hg (Nat.le_refl _)) h1 h2 h3)
  have K20 := Lib.hid (fun wg (hg : Below w1.heap.size w1 wg) => rcaps_any ex la ll lc mp nm mc dp nd dc rp nr rc qa ql qc va vl vc pa up mo ma po wg (HF.out.below hg (Nat.le_refl _)) h1 h2 h3)
  clear HF
  generalize L1 pa nd ++ L1 ma nr = La at K17 K18
  generalize L1 (capD up) nd ++ L1 (capR nm mo po) nr = Lc at K19 K20
  generalize nd + nr = nn at K17 K18 K19 K20
  refine wp_region_order (Below w1.heap.size w1) (Below w1.heap.size w1) [(0, false), (1, false), (2, false), (4, false), (3, true), (5, true), (6, true), (7, false), (8, false), (9, false), (11, false), (10, true), (12, true), (13, true), (14, false), (15, false)] (by kernel_rfl) (by kernel_rfl) rfl (by kernel_rfl) (below_stable w1) (fun _ h => h) (Below.refl _ _) ?_
  repeat (apply oRow_plainG
          · exact rfl
          · go_simp; done
          · intro wg hg
            ((have z0 := (hg.cell (p := ⟨b0, 0, none⟩) HLT.out).trans HC.out.1; have z1 := (hg.cell (p := ⟨b0, 1, none⟩) HLT.out).trans HC.out.2.1; have z2 := (hg.cell (p := ⟨b0, 2, none⟩) HLT.out).trans HC.out.2.2.1; have z3 := (hg.cell (p := ⟨b0, 3, none⟩) HLT.out).trans HC.out.2.2.2.1; have z4 := (hg.cell (p := ⟨b0, 4, none⟩) HLT.out).trans HC.out.2.2.2.2.1; have z5 := (hg.cell (p := ⟨b0, 5, none⟩) HLT.out).trans HC.out.2.2.2.2.2.1; have z6 := (hg.cell (p := ⟨b0, 6, none⟩) HLT.out).trans HC.out.2.2.2.2.2.2))
            go_simp
            first
              | exact rfl
              | exact ⟨Below.refl _ _, rfl⟩
              | ((((with_reducible refine (awake_any _).mono ?_); rintro e w' ⟨rfl, hb⟩; exact ⟨rfl, hb⟩)))
          intro K hK
          go_simp
          refine hK _ ?_
          clear hK K)
  (
    refine oRow_stepG (One w1 La nn) rfl (by go_simp) (One.stable w1 La nn) (fun _ _ h => h.2) ?_ ?_
    · intro wg hg
      have hgb : Below w1.heap.size w1 wg := by first | exact hg | exact hg.2
      go_simp
      with_reducible refine ((K17).out wg hgb).mono ?_
      rintro e w5 ⟨p, c, rfl, hI, hb⟩
      exact ⟨_, rfl, ⟨p, c, rfl, hI⟩, hgb.trans (hb.mono hgb.size)⟩
    rintro _ ⟨wv, ⟨p1, c1, rfl, -⟩, -⟩ K hK
    go_simp
    refine hK _ ?_
    clear hK K
    refine oRow_stepG (Twoo w1 La nn (.slice p1 nn c1)) rfl (by go_simp) (Twoo.stable w1 La nn _) (fun _ _ h => h.2) ?_ ?_
    · rintro wg ⟨⟨p3, c3, e3, hI3⟩, hg⟩
      have e3' : IntsAt wg (.slice p1 nn c1) La := by rw [e3]; exact hI3
      clear hI3 e3
      go_simp
      with_reducible refine ((K18).out wg hg).mono ?_
      rintro e w5 ⟨p, c, rfl, hI, hb⟩
      exact ⟨_, rfl, ⟨e3'.keep hb, p, c, rfl, hI⟩, hg.trans (hb.mono hg.size)⟩
    rintro _ ⟨wv, ⟨-, p2, c2, rfl, -⟩, -⟩ K hK
    go_simp
    refine hK _ ?_
    clear hK K
    refine oRow_stepG (Tru w1) rfl (by go_simp) (Tru.stable w1) (fun _ _ h => h.2) ?_ ?_
    · rintro wg ⟨⟨hI1, p3, c3, e3, hI3⟩, hg⟩
      have e3' : IntsAt wg (.slice p2 nn c2) La := by rw [e3]; exact hI3
      clear hI3 e3
      go_simp
      with_reducible refine (same_as hI1 e3').mono ?_
      rintro e w5 ⟨rfl, hb⟩
      exact ⟨_, rfl, rfl, hg.trans (hb.mono hg.size)⟩
    rintro _ ⟨wv, rfl, -⟩ K hK
    go_simp
    refine hK _ ?_
    clear hK K)
  repeat (apply oRow_plainG
          · exact rfl
          · go_simp; done
          · intro wg hg
            ((have z0 := (hg.cell (p := ⟨b0, 0, none⟩) HLT.out).trans HC.out.1; have z1 := (hg.cell (p := ⟨b0, 1, none⟩) HLT.out).trans HC.out.2.1; have z2 := (hg.cell (p := ⟨b0, 2, none⟩) HLT.out).trans HC.out.2.2.1; have z3 := (hg.cell (p := ⟨b0, 3, none⟩) HLT.out).trans HC.out.2.2.2.1; have z4 := (hg.cell (p := ⟨b0, 4, none⟩) HLT.out).trans HC.out.2.2.2.2.1; have z5 := (hg.cell (p := ⟨b0, 5, none⟩) HLT.out).trans HC.out.2.2.2.2.2.1; have z6 := (hg.cell (p := ⟨b0, 6, none⟩) HLT.out).trans HC.out.2.2.2.2.2.2))
            go_simp
            first
              | exact rfl
              | exact ⟨Below.refl _ _, rfl⟩
              | ((fail))
          intro K hK
          go_simp
          refine hK _ ?_
          clear hK K)
  (
    refine oRow_stepG (One w1 Lc nn) rfl (by go_simp) (One.stable w1 Lc nn) (fun _ _ h => h.2) ?_ ?_
    · intro wg hg
      have hgb : Below w1.heap.size w1 wg := by first | exact hg | exact hg.2
      go_simp
      with_reducible refine ((K19).out wg hgb).mono ?_
      rintro e w5 ⟨p, c, rfl, hI, hb⟩
      exact ⟨_, rfl, ⟨p, c, rfl, hI⟩, hgb.trans (hb.mono hgb.size)⟩
    rintro _ ⟨wv, ⟨p1, c1, rfl, -⟩, -⟩ K hK
    go_simp
    refine hK _ ?_
    clear hK K
    refine oRow_stepG (Twoo w1 Lc nn (.slice p1 nn c1)) rfl (by go_simp) (Twoo.stable w1 Lc nn _) (fun _ _ h => h.2) ?_ ?_
    · rintro wg ⟨⟨p3, c3, e3, hI3⟩, hg⟩
      have e3' : IntsAt wg (.slice p1 nn c1) Lc := by rw [e3]; exact hI3
      clear hI3 e3
      go_simp
      with_reducible refine ((K20).out wg hg).mono ?_
      rintro e w5 ⟨p, c, rfl, hI, hb⟩
      exact ⟨_, rfl, ⟨e3'.keep hb, p, c, rfl, hI⟩, hg.trans (hb.mono hg.size)⟩
    rintro _ ⟨wv, ⟨-, p2, c2, rfl, -⟩, -⟩ K hK
    go_simp
    refine hK _ ?_
    clear hK K
    refine oRow_stepG (Tru w1) rfl (by go_simp) (Tru.stable w1) (fun _ _ h => h.2) ?_ ?_
    · rintro wg ⟨⟨hI1, p3, c3, e3, hI3⟩, hg⟩
      have e3' : IntsAt wg (.slice p2 nn c2) Lc := by rw [e3]; exact hI3
      clear hI3 e3
      go_simp
      with_reducible refine (same_as hI1 e3').mono ?_
      rintro e w5 ⟨rfl, hb⟩
      exact ⟨_, rfl, rfl, hg.trans (hb.mono hg.size)⟩
    rintro _ ⟨wv, rfl, -⟩ K hK
    go_simp
    refine hK _ ?_
    clear hK K)
  repeat (apply oRow_plainG
          · exact rfl
          · go_simp; done
          · intro wg hg
            ((skip))
            go_simp
            first
              | exact rfl
              | exact ⟨Below.refl _ _, rfl⟩
              | ((fail))
          intro K hK
          go_simp
          refine hK _ ?_
          clear hK K)
  refine oRow_nil ?_
  rintro w5 ⟨-, hb5⟩
  have HB5 := Lib.hid (HB0.out.trans (hb5.mono HB0.out.size))
  clear hb5
  go_wp2_with fail
  go_ret
  exact ⟨rfl, HB5.out⟩
end Go.Proofs.Ytkjamafpohnflaa
