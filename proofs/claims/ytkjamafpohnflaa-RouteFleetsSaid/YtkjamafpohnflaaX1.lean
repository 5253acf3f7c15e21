/- The walk of the reference's Loads. -/
import Derived.Test.YtkjamafpohnflaaW9
set_option linter.unusedVariables false
set_option linter.unusedSimpArgs false
set_option linter.unnecessarySimpa false
namespace Go.Proofs.Ytkjamafpohnflaa
open Go Go.RowKit Go.Mem Go.Deep

/-- a pair of nodes -/
def OkP (n : Nat) (p : Int × Int) : Prop := 0 ≤ p.1 ∧ p.1 < n ∧ 0 ≤ p.2 ∧ p.2 < n
/-- j is one of the first k links -/
def inT (L : List Int) (k j : Nat) : Bool := decide ((j : Int) ∈ L.take k)
theorem inT_zero (L : List Int) (j : Nat) : inT L 0 j = false := by simp [inT]
theorem inT_succ {L : List Int} {k y : Nat} (hk : k < L.length) (hy : L.getD k 0 = y) (j : Nat) : inT L (k + 1) j = (inT L k j || j == y) := by
  have e : L.take (k + 1) = L.take k ++ [(y : Int)] := by
    rw [List.take_succ_eq_append_getElem hk]
    rw [List.getD_eq_getElem?_getD, List.getElem?_eq_getElem hk] at hy
    simp at hy
    rw [hy]
  unfold inT
  rw [e, Bool.eq_iff_iff]
  simp only [decide_eq_true_eq, Bool.or_eq_true, beq_iff_eq, List.mem_append, List.mem_singleton]
  constructor
  · rintro (h | h)
    · exact .inl h
    · exact .inr (by omega)
  · rintro (h | h)
    · exact .inl h
    · exact .inr (by omega)
theorem inT_fresh {L : List Int} (hs : L.Pairwise (· < ·)) {k y : Nat} (hk : k < L.length) (hy : L.getD k 0 = y) : inT L k y = false := by
  unfold inT
  rw [decide_eq_false_iff_not]
  intro h
  obtain ⟨i, hi, e⟩ := List.getElem_of_mem h
  rw [List.length_take] at hi
  rw [List.getElem_take] at e
  have := List.pairwise_iff_getElem.1 hs i k (by omega) hk (by omega)
  rw [List.getD_eq_getElem?_getD, List.getElem?_eq_getElem hk] at hy
  simp at hy
  omega
theorem inT_all {T : List Int} {x y j : Nat} (hj : j < T.length) : inT (pathI T x y) (pathI T x y).length j = pathS T x y j := by
  unfold inT
  rw [List.take_length, mem_pathI hj]
  unfold pathS
  rw [belZ_nat, belZ_nat]
theorem pathI_sorted (T : List Int) (x y : Nat) : (pathI T x y).Pairwise (· < ·) := Tree.range_sorted _ _

/-- the row and the path while the path is gone through -/
structure Rst (wA : World) (cb n B : Nat) (pv : Value) (q : Nat) (L : List Int) (g : Nat → Int) (wi : World) : Prop where
  row : wi.rowIs cb 3 n (fun j => .int .i64 (g j))
  own : wi.ownsRow B 3 1 pv q (ints L)
  below : Below cb wA wi
  ne : cb < B
theorem Rst.set {wA wi : World} {cb n B q : Nat} {pv : Value} {L : List Int} {g : Nat → Int} (h : Rst wA cb n B pv q L g wi) (y : Nat) (z : Int) : Rst wA cb n B pv q L (fun j => if j = y then z else g j) (wi.setCell ⟨cb, y, none⟩ (.int .i64 z)) := by
  have ho := (Only.refl [cb] wi).setCell (.inl (List.mem_singleton.2 rfl)) y (.int .i64 z)
  refine ⟨(h.row.set y (.int .i64 z)).congr (fun j hj => by by_cases e : j = y <;> simp [e]), owns_same h.own fun k hk => ho.block k (h.own.lt k hk).2 (by have := (h.own.lt k hk).1; have := h.ne; simp; omega), h.below.setCell (p := ⟨cb, y, none⟩) (Nat.le_refl _) _, h.ne⟩


/-- what the reference's Path hands back inside a region -/
def Pv (wq : World) (L : List Int) (q : Nat) (u : Value) (w' : World) : Prop := (∃ pa pc, u = .tuple #[.slice pa q pc, .int .i64 0] ∧ w'.ownsRow wq.heap.size 3 1 (.slice pa q pc) q (ints L)) ∧ Below wq.heap.size wq w'
theorem Pv.stable (wq : World) (L : List Int) (q : Nat) (u : Value) : Stable (Pv wq L q u) := fun w w' ⟨⟨pa, pc, h1, h2⟩, h3⟩ hb => ⟨⟨pa, pc, h1, owns_below h2 hb⟩, h3.trans (hb.mono h3.size)⟩
theorem below_stable (w : World) : Stable (Below w.heap.size w) := fun _ _ h hb => h.trans (hb.mono h.size)

set_option maxRecDepth 20000 in
set_option maxHeartbeats 8000000 in
theorem rloads_any (v u : Value) (T : List Int) (ps : List (Int × Int)) (n p0 : Nat) (w : World) (R : Ending → World → Prop) (h : IntsAt w v T) (h2 : PairsAt w u ps) (ho : Tree.Ok T) (hTL : T.length = n) (hps : ∀ i, i < p0 → OkP n (ps.getD i (0, 0))) (hm : ps.length ≤ 1000)
    (hend : (p0 = ps.length ∧ ∀ e w', LoadsIs w (loadsL T ps) n e w' → R e w') ∨ (p0 < ps.length ∧ ¬ OkP n (ps.getD p0 (0, 0)) ∧ ∀ w', Below w.heap.size w w' → R (.returned (.tuple #[.slice none 0 0, .int .i64 5])) w')) : Calls Try.prog 28 #[v, u] w R := by
  obtain ⟨a, cap, rfl, hlen⟩ := h.open
  obtain ⟨a2, cap2, rfl⟩ := h2.open
  have HO := Lib.hid ho
  have HTL := Lib.hid hTL
  have HP := Lib.hid hps
  have HE := Lib.hid hend
  obtain ⟨m, hm'⟩ : ∃ m, ps.length = m := ⟨_, rfl⟩
  have HM := Lib.hid hm'
  have hn64 : n ≤ 64 := by have := ho.2.1; omega
  have hp0m : p0 ≤ m := by rcases hend with ⟨e, _⟩ | ⟨e, _⟩ <;> omega
  rw [hm'] at hm h2 ⊢
  rw [hTL] at hlen h ⊢
  have H := Lib.hid h
  have H2 := Lib.hid h2
  have K24 := Lib.hid (check24_as h ho)
  have hmk := run_make_row' (P := Try.prog) 22 3 (.int .i64 0) 8 Try.underlying22 info3 rfl .i64 .i64 n (by omega) (by omega)
  clear h h2 ho hTL hps hm' hend
  go_enter Try.func28, Try.ntmps28
  go_wp2_with (first
    | (go_at_call 24; (with_reducible refine K24.out.mono ?_); rintro e w0 ⟨rfl, rfl⟩))
  obtain ⟨cb, hcb⟩ : ∃ x, w.heap.size = x := ⟨_, rfl⟩
  have HR0 := Lib.hid ((hcb ▸ World.rowIs_made w (.int .i64 0) n 3 : (w.alloc (.cells (madeCells #[.int .i64 0] n) 3)).rowIs cb 3 n (fun _ => .int .i64 0)).congr (g := fun j => .int .i64 (ldTo T ps 0 j)) (fun i _ => rfl))
  have HBc := Lib.hid (show Below cb w (w.alloc (.cells (madeCells #[.int .i64 0] n) 3)) from hcb ▸ below_alloc w _)
  have HLE := Lib.hid (Nat.le_of_eq hcb)
  rw [hcb]
  generalize w.alloc (.cells (madeCells #[.int .i64 0] n) 3) = w3 at *
  clear hmk K24
  go_loopw [8] (fun s wq => ∃ k : Nat, k ≤ p0 ∧ s = .int .i64 k ∧ Hid (wq.rowIs cb 3 n (fun j => .int .i64 (ldTo T ps k j))) ∧ Hid (Below cb w wq)) (fun s _ => m - (intOf s).toNat)
  case atStart => exact ⟨0, by omega, rfl, HR0, HBc⟩
  case round =>
    rename World => wq
    obtain ⟨k, hk, rfl, HR, HB⟩ := hrel
    clear HR0 HBc
    have hws := HB.out.size
    have hcl := HR.out.lt
    by_cases hkm : k < m
    · obtain ⟨x, y, hxy⟩ : ∃ x y, ps.getD k (0, 0) = (x, y) := ⟨_, _, rfl⟩
      obtain ⟨b, off, rfl, hb, c0, c1⟩ := (H2.out.below HB.out HLE.out).cell (i := k) (by rw [HM.out]; exact hkm) hxy
      have HC0 := Lib.hid c0
      have HC1 := Lib.hid c1
      clear c0 c1
      have hkm2 : decide (k < m) = true := by simpa using hkm
      by_cases hk0 : k < p0
      · have hv := HP.out k hk0
        rw [hxy] at hv
        obtain ⟨v1, v2, v3, v4⟩ := hv
        dsimp only at v1 v2 v3 v4
        obtain ⟨x, rfl⟩ : ∃ X : Nat, x = X := ⟨x.toNat, by omega⟩
        obtain ⟨y, rfl⟩ : ∃ X : Nat, y = X := ⟨y.toNat, by omega⟩
        obtain ⟨L, hL⟩ : ∃ L, pathI T x y = L := ⟨_, rfl⟩
        obtain ⟨q, hq⟩ : ∃ q, L.length = q := ⟨_, rfl⟩
        have K22 := fun w (h : IntsAt w (.slice a n cap) T) => Lib.hid (rpath_ok _ T L x y q w h HO.out (by rw [HTL.out]; omega) (by rw [HTL.out]; omega) hL hq)
        have HL := Lib.hid hL
        have HQ := Lib.hid hq
        have HXY := Lib.hid (show x < T.length ∧ y < T.length by rw [HTL.out]; omega)
        have hbase : Hid (∀ j : Nat, (ldTo T ps (k + 1) j : Int) = (ldTo T ps k j : Int) + (if pathS T x y j then 1 else 0)) := Lib.hid fun j => by
          rw [ldTo_succ, hxy]
          show ((ldTo T ps k j + if pathS T x y j then 1 else 0 : Nat) : Int) = _
          split <;> simp
        clear hL hq hxy v1 v2 v3 v4
        go_wp2_with fail
        refine wp_region_order (Below wq.heap.size wq) (Below wq.heap.size wq) [(0, false), (1, false), (2, false), (3, false), (4, false), (5, false), (6, false), (7, false), (8, false), (9, false), (10, false), (11, true), (12, false), (13, false), (14, false), (15, false), (16, false)] (by kernel_rfl) (by kernel_rfl) rfl (by kernel_rfl) (below_stable wq) (fun _ h => h) (Below.refl _ _) ?_
        repeat (apply oRow_plain
                · exact rfl
                · exact rfl
                · intro wg hg
                  ((have x0 := (hg.cell (p := ⟨b, off + k * 2, none⟩) hb).trans HC0.out; have x1 := (hg.cell (p := ⟨b, off + k * 2 + 1, none⟩) hb).trans HC1.out))
                  go_simp
                  first
                    | exact rfl
                    | exact ⟨Below.refl _ _, rfl⟩
                    | ((fail))
                intro K hK
                go_simp
                refine hK _ ?_
                clear hK K)
        refine oRow_step (Pv wq L q) rfl rfl (Pv.stable wq L q) (fun _ _ h => h.2) ?_ ?_
        · intro wg hg
          go_simp
          refine (K22 wg (H.out.below (HB.out.trans (hg.mono (Nat.le_of_lt hcl))) HLE.out)).out.mono ?_
          rintro e w5 ⟨pa, pc, rfl, hown⟩
          exact ⟨_, rfl, ⟨pa, pc, rfl, owns_mono (HQ.out ▸ hown.row) hg.size⟩, hg.trans (hown.below.mono hg.size)⟩
        rintro _ ⟨wv, ⟨pa, pc, rfl, -⟩, -⟩ K hK
        go_simp
        refine hK _ ?_
        clear hK K
        repeat (apply oRow_plain
                · exact rfl
                · exact rfl
                · intro wg hg
                  ((skip))
                  go_simp
                  first
                    | exact rfl
                    | exact ⟨Below.refl _ _, rfl⟩
                    | ((fail))
                intro K hK
                go_simp
                refine hK _ ?_
                clear hK K)
        refine oRow_nil ?_
        rintro w5 ⟨⟨pa2, pc2, he5, hown⟩, hb5⟩
        simp only [Value.tuple.injEq, Array.mk.injEq, List.cons.injEq, Value.slice.injEq, and_true, true_and] at he5
        obtain ⟨rfl, rfl⟩ := he5
        have HV0 := Lib.hid (show Rst w cb n wq.heap.size (.slice pa q pc) q L (fun j => (ldTo T ps k j : Int)) w5 ∧ ∀ j : Nat, (fun j : Nat => (ldTo T ps k j : Int)) j = (ldTo T ps k j : Int) + (if inT L 0 j then 1 else 0) from ⟨⟨HR.out.of_block (hb5.block cb hcl), hown, HB.out.trans (hb5.mono (Nat.le_of_lt hcl)), hcl⟩, fun j => by rw [inT_zero]; simp⟩)
        clear hown hb5 K22
        obtain ⟨B, hB⟩ : ∃ B, wq.heap.size = B := ⟨_, rfl⟩
        rw [hB] at HV0
        clear hB
        go_wp2_with fail
        have hq64 : q ≤ 64 := by have := len_pathTo T x y T.length; have e : (pathTo T x y T.length).length = q := (congrArg List.length HL.out).trans HQ.out; have := HTL.out; omega
        go_loopw [11] (fun s wi => ∃ (t : Nat) (g : Nat → Int), t ≤ q ∧ s = .int .i64 t ∧ Hid (Rst w cb n B (.slice pa q pc) q L g wi ∧ ∀ j : Nat, g j = (ldTo T ps k j : Int) + (if inT L t j then 1 else 0))) (fun s _ => q - (intOf s).toNat)
        case atStart => exact ⟨0, _, by omega, rfl, HV0⟩
        case round =>
          rename World => wi
          obtain ⟨t, g, ht, rfl, HV⟩ := hrel
          clear HV0
          by_cases htq : t < q
          · obtain ⟨b5, o5, rfl, hb5, c5⟩ := (ints_of_owns (l := L) (by rw [HQ.out]; exact HV.out.1.own) (by rw [HQ.out]; omega)).cell (i := t) (by rw [HQ.out]; exact htq)
            have hmem := getD_mem (l := L) (k := t) (by rw [HQ.out]; exact htq)
            rw [← HL.out] at hmem
            obtain ⟨z, hz, hze⟩ := List.mem_map.1 hmem
            have hzn := (Tree.mem_path.1 hz).1
            rw [HTL.out] at hzn
            rw [HL.out] at hze
            rw [← hze] at c5
            have hfr := inT_fresh (HL.out ▸ pathI_sorted T x y) (k := t) (by rw [HQ.out]; exact htq) hze.symm
            obtain ⟨u0, hu0⟩ : ∃ u, g z = u := ⟨_, rfl⟩
            have hub : 0 ≤ u0 ∧ u0 ≤ 1001 := by
              have h1 := HV.out.2 z
              have h2 := ldTo_le T ps k z
              rw [hu0] at h1
              by_cases hi : inT L t z = true
              · rw [if_pos hi] at h1; omega
              · rw [if_neg hi] at h1; omega
            have c6 : wi.cell? ⟨cb, z, none⟩ = some (.int .i64 u0) := hu0 ▸ HV.out.1.row.cell hzn
            have f6 := HV.out.1.row.frozen z
            have HV2 := Lib.hid (show Rst w cb n B (.slice (some ⟨b5, o5, none⟩) q pc) q L (fun j => if j = z then u0 + 1 else g j) (wi.setCell ⟨cb, z, none⟩ (.int .i64 (u0 + 1))) ∧ ∀ j : Nat, (fun j : Nat => if j = z then u0 + 1 else g j) j = (ldTo T ps k j : Int) + (if inT L (t + 1) j then 1 else 0) from
              ⟨HV.out.1.set z (u0 + 1), fun j => by
                rw [inT_succ (by rw [HQ.out]; exact htq) hze.symm]
                by_cases e : j = z
                · subst e
                  have := HV.out.2 j
                  rw [hu0, hfr] at this
                  simp [hfr, this]
                · have := HV.out.2 j
                  have e2 : (j == z) = false := by simpa using e
                  rw [e2, Bool.or_false]
                  simp [e, this]⟩)
            clear hmem hz hze hfr hu0
            go_wp2_with fail
            go_roundw
            case rel => exact ⟨t + 1, _, by omega, by go_num, HV2⟩
            case measure => simp [intOf]; omega
          · obtain rfl : t = q := by omega
            have HN2 := Lib.hid (HV.out.1.row.congr (g := fun j => .int .i64 (ldTo T ps (k + 1) j)) (fun j hj => by
              show Value.int .i64 (g j) = .int .i64 (ldTo T ps (k + 1) j : Int)
              rw [HV.out.2 j, hbase.out j, ← HQ.out, ← HL.out, inT_all (by rw [HTL.out]; exact hj)]))
            go_wp2_with fail
            go_roundw
            case rel => exact ⟨k + 1, by omega, by go_num, HN2, HV.out.1.below⟩
            case measure => simp [intOf]; omega
      · obtain rfl : k = p0 := by omega
        have HEB : Hid (¬ OkP n (x, y) ∧ ∀ w', Below w.heap.size w w' → R (.returned (.tuple #[.slice none 0 0, .int .i64 5])) w') := Lib.hid (by
          rcases HE.out with ⟨e, _⟩ | ⟨_, h1, h2⟩
          · rw [HM.out] at e; omega
          · rw [hxy] at h1; exact ⟨h1, h2⟩)
        have HCK := Lib.hid (show checkF T [x, y] = 5 by
          have hb := (Tree.okB_iff T).2 HO.out
          by_cases q1 : 0 ≤ x ∧ x < n
          · refine checkF_out hb (x := y) (by simp) fun q2 => HEB.out.1 ⟨q1.1, q1.2, q2.1, by rw [← HTL.out]; exact q2.2⟩
          · exact checkF_out hb (x := x) (by simp) (by rw [HTL.out]; exact q1))
        have K22 := fun w (h : IntsAt w (.slice a n cap) T) => Lib.hid (rpath_bad _ T x y 5 w h HCK.out (by decide))
        clear hxy
        go_wp2_with fail
        refine wp_region_grow (Below wq.heap.size wq) (by kernel_rfl) ?_ (Below.refl _ _).drew ?_
        · kernel_rfl
        repeat first
                 | (apply gRow_plain
                    · exact rfl
                    · intro wg hg
                      ((have x0 := (hg.cell (p := ⟨b, off + k * 2, none⟩) hb).trans HC0.out; have x1 := (hg.cell (p := ⟨b, off + k * 2 + 1, none⟩) hb).trans HC1.out))
                      go_simp
                      first
                        | exact rfl
                        | exact hg
                        | exact ⟨hg, rfl⟩
                        | ((((with_reducible refine (K22 wg (H.out.below (HB.out.trans (hg.mono (Nat.le_of_lt hcl))) HLE.out)).out.mono ?_); rintro e w' ⟨rfl, rfl⟩; exact ⟨rfl, hg⟩)))
                    intro K hK
                    go_simp
                    refine hK _ ?_
                    clear hK K)
                 | (apply gRow_step
                    · go_simp; done
                    · intro wg hg
                      ((have x0 := (hg.cell (p := ⟨b, off + k * 2, none⟩) hb).trans HC0.out; have x1 := (hg.cell (p := ⟨b, off + k * 2 + 1, none⟩) hb).trans HC1.out))
                      go_simp
                      first
                        | exact rfl
                        | exact hg
                        | exact ⟨hg, rfl⟩
                        | ((((with_reducible refine (K22 wg (H.out.below (HB.out.trans (hg.mono (Nat.le_of_lt hcl))) HLE.out)).out.mono ?_); rintro e w' ⟨rfl, rfl⟩; exact ⟨rfl, hg⟩)))
                    intro K hK
                    go_simp
                    refine hK _ ?_
                    clear hK K)
                 | (apply gRow_not
                    · go_simp; done
                    intro K hK
                    go_simp
                    refine hK _ ?_
                    clear hK K)
        refine gRow_nil ?_
        intro w2 hb2
        have HBE := Lib.hid ((HB.out.trans (hb2.mono (Nat.le_of_lt hcl))).mono HLE.out)
        clear hb2
        go_wp2_with fail
        exact HEB.out.2 _ HBE.out
    · obtain rfl : k = m := by omega
      have HEB : Hid (∀ e w', LoadsIs w (loadsL T ps) n e w' → R e w') := Lib.hid (by
        rcases HE.out with ⟨_, h⟩ | ⟨h1, _⟩
        · exact h
        · rw [HM.out] at h1; omega)
      have HI := Lib.hid (show IntsAt wq (.slice (some ⟨cb, 0, none⟩) n n) (loadsL T ps) by
        have hl : (loadsL T ps).length = n := by rw [len_loads, HTL.out]
        refine ⟨_, n, by rw [len_ints, hl], by rw [len_ints, hl]; omega, by unfold maxLen; omega, by rw [len_ints, hl]; omega, .inr ⟨cb, 0, rfl, HR.out.lt, fun i hi => ?_⟩⟩
        rw [len_ints, hl] at hi
        rw [Nat.zero_add, HR.out.cell hi]
        have hi2 : i < (loadsL T ps).length := by omega
        have := loads_get (T := T) (ps := ps) (j := i) (by rw [HTL.out]; exact hi)
        rw [HM.out] at this
        simp [ints, hi2, List.getD_eq_getElem?_getD] at this ⊢
        exact this.symm)
      have HBE := Lib.hid (HB.out.mono HLE.out)
      go_wp2_with fail
      exact HEB.out _ _ ⟨_, _, rfl, HI.out, HBE.out⟩
end Go.Proofs.Ytkjamafpohnflaa
