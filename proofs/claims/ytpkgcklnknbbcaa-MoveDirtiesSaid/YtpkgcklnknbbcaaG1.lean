/- The walk of MoveDirties. -/
import Derived.Test.YtpkgcklnknbbcaaO1
import Derived.Laws.NewBlocks
import Derived.OwnWalk
import Derived.Deep.OwnRows
set_option linter.unusedVariables false
set_option linter.unusedSimpArgs false
set_option linter.unnecessarySimpa false
namespace Go.Proofs.Ytpkgcklnknbbcaa
open Go.RowKit

def allB (g : Nat → Bool) (n : Nat) : Bool := (List.range n).all g
theorem allB_succ (g : Nat → Bool) (n : Nat) : allB g (n + 1) = (allB g n && g n) := by
  unfold allB; rw [List.range_succ, List.all_append]; simp
def bitsOf (V : Int) (j : Nat) : Bool := hasBit V j

theorem dirt_small : ∀ (P : Fin 3) (s : Fin 5) (v : Fin 16) (m : Fin 2) (t : Fin 4), (P.val = 1 ∨ P.val = 2) → validB (P.val : Int) (s.val : Int) (v.val : Int) = true → t.val < s.val →
    (applyF P.val s.val v.val false (1 + (m.val : Int)) t.val).2 = 0 ∧
    ((applyF P.val s.val v.val false (1 + (m.val : Int)) t.val).1.1 = 1 ∨ (applyF P.val s.val v.val false (1 + (m.val : Int)) t.val).1.1 = 2) ∧
    (applyF P.val s.val v.val false (1 + (m.val : Int)) t.val).1.2.1 = s.val ∧ (applyF P.val s.val v.val false (1 + (m.val : Int)) t.val).1.2.2.2 = false ∧
    (∀ j : Fin 4, j.val < s.val → hasBit (applyF P.val s.val v.val false (1 + (m.val : Int)) t.val).1.2.2.1 j.val = (if j.val = t.val then decide (m.val = 0) else hasBit v.val j.val)) ∧
    ((applyF P.val s.val v.val false (1 + (m.val : Int)) t.val).1.1 == 2) = allB (bitsOf (applyF P.val s.val v.val false (1 + (m.val : Int)) t.val).1.2.2.1) s.val := by decide +kernel

theorem dirt_step {P V m t : Int} {n : Nat} (hP : P = 1 ∨ P = 2) (h : validB P n V = true) (m0 : 0 ≤ m) (m2 : m < 2) (t0 : 0 ≤ t) (tn : t < n) :
    ∃ P' V', applyF P n V false (1 + m) t = ((P', (n : Int), V', false), 0) ∧ validB P' n V' = true ∧ (P' = 1 ∨ P' = 2) ∧ (∀ j, j < n → bitsOf V' j = (if j = t.toNat then decide (m = 0) else bitsOf V j)) ∧ (P' == 2) = allB (bitsOf V') n := by
  obtain ⟨b1, b4, b2, b3⟩ := valid_bounds h
  have h15 := allOf_le b1 b4
  have key := dirt_small ⟨P.toNat, by omega⟩ ⟨n, by omega⟩ ⟨V.toNat, by omega⟩ ⟨m.toNat, by omega⟩ ⟨t.toNat, by omega⟩ (by show P.toNat = 1 ∨ P.toNat = 2; omega)
    (by simp only [Int.toNat_of_nonneg b2, Int.toNat_of_nonneg (show 0 ≤ P by omega)]; exact h) (by show t.toNat < n; omega)
  simp only [Int.toNat_of_nonneg b2, Int.toNat_of_nonneg (show 0 ≤ P by omega), Int.toNat_of_nonneg m0, Int.toNat_of_nonneg t0] at key
  generalize hy : applyF P n V false (1 + m) t = y at key
  obtain ⟨⟨P', S', V', D'⟩, e⟩ := y
  obtain ⟨k1, k2, k3, k4, k5, k6⟩ := key
  simp only at k1 k2 k3 k4 k5 k6
  subst k1 k3 k4
  refine ⟨P', V', rfl, applyF_valid hy, k2, fun j hj => ?_, k6⟩
  have := k5 ⟨j, by omega⟩ hj
  simp only at this
  unfold bitsOf
  rw [this]
  by_cases e1 : j = t.toNat
  · rw [if_pos e1, if_pos e1]
    rw [Bool.eq_iff_iff]
    simp
    omega
  · rw [if_neg e1, if_neg e1]

theorem bit_nat {P V : Int} {n j : Nat} (h : validB P n V = true) (hj : j < n) : (bits .and .i64 (V / 2 ^ j) 1 == 1) = bitsOf V j := by
  have := bit_fact (t := (j : Int)) h (by omega) (by omega)
  simpa [bitsOf] using this

theorem info4 : (Try.prog.info? 4).map (fun i => (i.zero, i.size, i.bytes)) = some (some (.bool false), 1, 1) := by kernel_rfl

/-- an array of truth values -/
structure IsB (c : Array Value) (n : Nat) (g : Nat → Bool) : Prop where
  size : c.size = n
  get : ∀ i, i < n → c[i]? = some (.bool (g i))
theorem IsB.set {c : Array Value} {n : Nat} {g : Nat → Bool} (h : IsB c n g) (i : Nat) (b : Bool) : IsB (c.setIfInBounds i (.bool b)) n (fun j => if j = i then b else g j) := by
  refine ⟨by simp [h.size], fun j hj => ?_⟩
  rw [Array.getElem?_setIfInBounds]
  by_cases e : i = j
  · subst e; simp [h.size, hj]
  · rw [if_neg e, if_neg (Ne.symm e)]; exact h.get j hj
theorem isB_made (w : World) (n : Nat) : IsB (madeCells #[.bool false] n) n (fun _ => false) := by
  obtain ⟨c, hc, hs, hg⟩ := World.rowIs_made w (.bool false) n 4
  rw [Go.Deep.blk_alloc_new] at hc
  cases hc
  exact ⟨hs, hg⟩

set_option maxRecDepth 100000 in
set_option maxHeartbeats 4000000 in
theorem dirties_any (s : Int) (vl : Value) (es : List Ev) (w : World) (he : Evs w vl es) (hE : ∀ e ∈ es, In64 e.1 ∧ In64 e.2) (hs : In64 s) :
    Calls Try.prog 9 #[.int .i64 s, vl] w (RetB true w) := by
  obtain ⟨a, cap, rfl, hl, hi⟩ := he
  have HI := Lib.hid hi
  have HE := Lib.hid hE
  have HP := Lib.hid (show (-9223372036854775808 ≤ s ∧ s ≤ 9223372036854775807) from hs)
  obtain ⟨ln, hln⟩ : ∃ ln, ln = es.length := ⟨_, rfl⟩
  have HL := Lib.hid hln
  rw [← hln] at hl ⊢
  obtain ⟨n4, hn4⟩ : ∃ n4, n4 = s % 4 := ⟨_, rfl⟩
  obtain ⟨n, hn⟩ : ∃ n : Nat, 1 + n4 = (n : Int) := ⟨(1 + n4).toNat, by omega⟩
  have n1 : 1 ≤ n := by omega
  have n5 : n ≤ 4 := by omega
  have HN4 := Lib.hid hn4
  clear hi hs hE hln hn4
  by_cases h60 : 60 < ln
  · have hd1 : decide ((60 : Int) < (ln : Int)) = true := by simp; omega
    clear hn
    go_enter Try.func9, Try.ntmps9
    go_wp2_with (go_at_call 13; refine (awake_any _).mono ?_; rintro e w1 ⟨rfl, hb1⟩; have HB := Lib.hid hb1)
    go_ret
    exact ⟨rfl, HB.out⟩
  have hd1 : decide ((60 : Int) < (ln : Int)) = false := by simp; omega
  have HY := Lib.hid (show beginF (n : Int) false = ((1, (n : Int), 0, false), 0) by unfold beginF; rw [if_neg (by omega)])
  have hmk := run_make_row' (P := Try.prog) 47 4 (.bool false) 1 Try.underlying47 info4 rfl .i64 .i64 n (by omega) (by omega)
  go_enter Try.func9, Try.ntmps9
  go_wp2_with (first
    | (go_at_call 12; refine (within_any s 4 _ (by decide) (by decide) HP.out.1 HP.out.2).mono ?_; rintro e w1 ⟨rfl, rfl⟩; rw [← HN4.out])
    | (go_at_call 10; refine (begin_as HY.out _).mono ?_; rintro e w1 ⟨rfl, hb1⟩; have HM1 := Lib.hid ((Mm.start w).call hb1); clear hb1))
  have HM2 := Lib.hid (show Mm w _ [(w1.heap.size + 1, madeCells #[.bool false] n), (w1.heap.size, #[.int .i64 1, .int .i64 n, .int .i64 0, .bool false])] from (HM1.out.push w1.heap.size #[.int .i64 1, .int .i64 n, .int .i64 0, .bool false] 23 rfl).push (w1.heap.size + 1) _ 4 (by simp))
  have HG0 := Lib.hid (isB_made w n)
  have HV0 := Lib.hid (show validB 1 n 0 = true by
    have := allOf_ge (s := (n : Int)) (by omega) (by omega)
    simp [validB]; omega)
  have HB0 := Lib.hid (show ∀ j, j < n → bitsOf 0 j = false from fun j _ => by unfold bitsOf hasBit; simp)
  clear hmk hn
  generalize madeCells #[.bool false] n = G0 at *
  generalize w1.heap.size = b6 at *
  go_loopw [9] (fun i wr => ∃ (k : Nat) (P V : Int) (G : Array Value) (g : Nat → Bool), k ≤ ln ∧ i = .int .i64 k ∧ Mm w wr [(b6 + 1, G), (b6, #[.int .i64 P, .int .i64 n, .int .i64 V, .bool false])] ∧ Hid (IsB G n g) ∧ Hid (validB P n V = true) ∧ Hid (P = 1 ∨ P = 2) ∧ Hid (∀ j, j < n → bitsOf V j = g j)) (fun i _ => ln - (intOf i).toNat)
  case atStart => exact ⟨0, 1, 0, G0, fun _ => false, by omega, rfl, HM2.out, HG0, HV0, Lib.hid (.inl rfl), HB0⟩
  case round =>
    clear HM2 HG0 HV0 HB0 HM1
    rename World => wr
    obtain ⟨k, P, V, G, g, hkn, rfl, hM, HG, HV, HPP, HBT⟩ := hrel
    have HM := Lib.hid hM
    clear hM
    by_cases hlt : k < ln
    · obtain ⟨b, off, rfl, hbs, hek, het⟩ := HI.out k (by rw [← HL.out]; exact hlt)
      have hk' : k < es.length := by rw [← HL.out]; exact hlt
      have h64 := Lib.hid (HE.out (es.getD k (0, 0)) (by simp [List.getD, hk']))
      generalize es.getD k (0, 0) = E at *
      obtain ⟨ek, et⟩ := E
      have HB64 := Lib.hid (show ((-9223372036854775808 ≤ ek ∧ ek ≤ 9223372036854775807) ∧ (-9223372036854775808 ≤ et ∧ et ≤ 9223372036854775807)) from h64.out)
      have hek' := (HM.out.below.cell (p := ⟨b, off + k * 2, none⟩) hbs).trans hek
      have het' := (HM.out.below.cell (p := ⟨b, off + k * 2 + 1, none⟩) hbs).trans het
      obtain ⟨m, hm⟩ : ∃ m, m = ek % 2 := ⟨_, rfl⟩
      obtain ⟨tn, htn⟩ : ∃ tn : Nat, et % (n : Int) = (tn : Int) := ⟨(et % (n : Int)).toNat, by have := Int.emod_nonneg et (show (n : Int) ≠ 0 by omega); omega⟩
      have htl : tn < n := by have := Int.emod_lt_of_pos et (show (0 : Int) < n by omega); omega
      obtain ⟨P', V', hA, hV', hP', hbit, hph⟩ := dirt_step (m := m) (t := (tn : Int)) HPP.out HV.out (by omega) (by omega) (by omega) (by omega)
      have HA := Lib.hid hA
      have HV2 := Lib.hid hV'
      have HP2 := Lib.hid hP'
      have HBI := Lib.hid hbit
      have HPH := Lib.hid hph
      have HMM := Lib.hid hm
      have HTN := Lib.hid htn
      obtain ⟨bm, hbm⟩ : ∃ bm, (1 + m == 1) = bm := ⟨_, rfl⟩
      have HBM := Lib.hid (show decide (m = 0) = bm by rw [← hbm, Bool.eq_iff_iff]; simp; omega)
      clear hek het h64 hA hV' hP' hbit hph hm htn
      have hm0 : 0 ≤ m := by have := HMM.out; omega
      have hm2 : m < 2 := by have := HMM.out; omega
      have hmw : wrap64 (1 + m) = 1 + m := IntWalk.wrap64_in _ (by omega)
      (obtain ⟨x10, x11, x12, x13, x10f, x11f, x12f, x13f, x1l⟩ := (HM).out.lay4 1 rfl)
      go_wp2_with (first
        | (go_at_call 12; (with_reducible refine (within_any et (n : Int) _ (by omega) (by omega) HB64.out.2.1 HB64.out.2.2).mono ?_); rintro e w1 ⟨rfl, rfl⟩; rw [HTN.out])
        | (go_at_call 12; (with_reducible refine (within_any ek 2 _ (by decide) (by decide) HB64.out.1.1 HB64.out.1.2).mono ?_); rintro e w1 ⟨rfl, rfl⟩; rw [← HMM.out])
        | (go_at_call 16; refine (apply_as HA.out _ (valid_i64 HV.out).1 (valid_i64 HV.out).2).mono ?_; rintro e w2 ⟨rfl, hb1⟩; have HM3 := Lib.hid ((HM.out.push wr.heap.size #[.int .i64 (1 + m), .int .i64 tn] 32 rfl).call hb1); clear x10 x11 x12 x13 x10f x11f x12f x13f x1l; (obtain ⟨x00, x01, x00f, x01f, x0l⟩ := (HM3).out.lay2 0 rfl; obtain ⟨x20, x21, x22, x23, x20f, x21f, x22f, x23f, x2l⟩ := (HM3).out.lay4 2 rfl); have y0 := HM3.out.get (k := 1) rfl (HG.out.get tn htl); have y0f := HM3.out.cold (k := 1) rfl tn; have y0l := HM3.out.lt (k := 1) rfl; clear hb1))
      have HGV := Lib.hid (show IsB (G.setIfInBounds tn (.bool bm)) n (bitsOf V') by
        have h1 := HG.out.set tn bm
        refine ⟨h1.size, fun i hi => ?_⟩
        rw [h1.get i hi, HBI.out i hi, HBT.out i hi, HBM.out, Int.toNat_natCast])
      have HM4 := Lib.hid (show Mm w _ [(w2.heap.size, #[.int .i64 P', .int .i64 n, .int .i64 V', .bool false]), (wr.heap.size, #[.int .i64 (1 + m), .int .i64 tn]), (b6 + 1, G.setIfInBounds tn (.bool bm)), (b6, #[.int .i64 P, .int .i64 n, .int .i64 V, .bool false])] from (HM3.out.set 1 rfl tn (.bool bm)).push w2.heap.size #[.int .i64 P', .int .i64 n, .int .i64 V', .bool false] 23 (by simp))
      clear x00 x01 x00f x01f x0l x20 x21 x22 x23 x20f x21f x22f x23f x2l
      clear y0 y0f y0l HM3 HM
      generalize G.setIfInBounds tn (.bool bm) = G2 at *
      generalize (w2.setCell ⟨b6 + 1, tn, none⟩ (.bool bm)).alloc (.cells #[.int .i64 P', .int .i64 n, .int .i64 V', .bool false] 23) = w4 at *
      go_loopw [15, 14] (fun q av wq => ∃ (j : Nat) (al : Bool), j ≤ n ∧ q = .int .i64 j ∧ av = .bool al ∧ Mm w wq [(w2.heap.size, #[.int .i64 P', .int .i64 n, .int .i64 V', .bool false]), (wr.heap.size, #[.int .i64 (1 + m), .int .i64 tn]), (b6 + 1, G2), (b6, #[.int .i64 P, .int .i64 n, .int .i64 V, .bool false])] ∧ Hid (al = allB (bitsOf V') j)) (fun q _ _ => n - (intOf q).toNat)
      case atStart => exact ⟨0, true, by omega, rfl, rfl, HM4.out, Lib.hid rfl⟩
      case round =>
        clear HM4
        rename World => wq
        obtain ⟨j, al, hjn, rfl, rfl, hM, HAL⟩ := hrel
        have HM := Lib.hid hM
        clear hM
        by_cases hjl : j < n
        · obtain ⟨bj, hbj⟩ : ∃ bj, bj = bitsOf V' j := ⟨_, rfl⟩
          have y0 := HM.out.get (k := 2) rfl (HGV.out.get j hjl)
          have hb := bit_nat HV2.out hjl
          rw [← hbj] at y0 hb
          have HBJ := Lib.hid hbj
          have hu : IntKind.u64.wrap (j : Int) = j := IntWalk.u64_in _ (by omega)
          clear hbj
          (obtain ⟨x00, x01, x02, x03, x00f, x01f, x02f, x03f, x0l⟩ := (HM).out.lay4 0 rfl; obtain ⟨x10, x11, x10f, x11f, x1l⟩ := (HM).out.lay2 1 rfl; obtain ⟨x30, x31, x32, x33, x30f, x31f, x32f, x33f, x3l⟩ := (HM).out.lay4 3 rfl)
          cases al
          all_goals
            go_wp2_with fail
            refine wp_region_grow (fun w' => Mm w w' [(w2.heap.size, #[.int .i64 P', .int .i64 n, .int .i64 V', .bool false]), (wr.heap.size, #[.int .i64 (1 + m), .int .i64 tn]), (b6 + 1, G2), (b6, #[.int .i64 P, .int .i64 n, .int .i64 V, .bool false])]) (by kernel_rfl) (by kernel_rfl) HM.out.drew ?_
            clear y0
            clear x00 x01 x02 x03 x00f x01f x02f x03f x0l x10 x11 x10f x11f x1l x30 x31 x32 x33 x30f x31f x32f x33f x3l
            (repeat first
                      | (apply gRow_plain
                         · exact rfl
                         · intro wg hg
                           ((have hgm : Mm w wg _ := hg; (obtain ⟨x00, x01, x02, x03, -⟩ := hgm.lay4 0 rfl; obtain ⟨x10, x11, -⟩ := hgm.lay2 1 rfl; obtain ⟨x30, x31, x32, x33, -⟩ := hgm.lay4 3 rfl); have y0 := hgm.get (k := 2) rfl (HGV.out.get j hjl); rw [← HBJ.out] at y0))
                           go_simp
                           first
                             | exact rfl
                             | exact hg
                             | exact ⟨hg, rfl⟩
                             | ((fail))
                         intro K hK
                         go_simp
                         refine hK _ ?_
                         clear hK K)
                      | (apply gRow_step
                         · go_simp; done
                         · intro wg hg
                           ((have hgm : Mm w wg _ := hg; (obtain ⟨x00, x01, x02, x03, -⟩ := hgm.lay4 0 rfl; obtain ⟨x10, x11, -⟩ := hgm.lay2 1 rfl; obtain ⟨x30, x31, x32, x33, -⟩ := hgm.lay4 3 rfl); have y0 := hgm.get (k := 2) rfl (HGV.out.get j hjl); rw [← HBJ.out] at y0))
                           go_simp
                           first
                             | exact rfl
                             | exact hg
                             | exact ⟨hg, rfl⟩
                             | ((fail))
                         intro K hK
                         go_simp
                         refine hK _ ?_
                         clear hK K)
                      | (apply gRow_not
                         · go_simp; done
                         intro K hK
                         go_simp
                         refine hK _ ?_
                         clear hK K))
            refine gRow_nil ?_
            intro w5 hM5
            have HM5 := Lib.hid hM5
            clear hM5
            go_wp2_with fail
            go_roundw
            case rel => exact ⟨j + 1, _, by omega, by go_num, rfl, HM5.out, Lib.hid (by rw [allB_succ, ← HAL.out, ← HBJ.out]; rfl)⟩
            case measure => simp [intOf]; omega
        · have hjn' : j = n := by omega
          have hph : (P' == 2) = al := by rw [HPH.out, HAL.out, hjn']
          clear hjn'
          (obtain ⟨x00, x01, x02, x03, x00f, x01f, x02f, x03f, x0l⟩ := (HM).out.lay4 0 rfl; obtain ⟨x10, x11, x10f, x11f, x1l⟩ := (HM).out.lay2 1 rfl; obtain ⟨x30, x31, x32, x33, x30f, x31f, x32f, x33f, x3l⟩ := (HM).out.lay4 3 rfl)
          go_wp2_with fail
          go_roundw
          case rel => exact ⟨k + 1, P', V', G2, bitsOf V', by omega, by go_num, ((HM.out.put4 3 rfl _ _ _ _).drop).drop, HGV, HV2, HP2, Lib.hid (fun _ _ => rfl)⟩
          case measure => simp [intOf]; omega
    · go_wp2_with (go_at_call 13; refine (awake_any _).mono ?_; rintro e w1 ⟨rfl, hb1⟩; have HB := Lib.hid (HM.out.call hb1))
      go_ret
      exact ⟨rfl, HB.out.below⟩
end Go.Proofs.Ytpkgcklnknbbcaa
