/- The reference's Drives. -/
import Derived.Test.YthljjllcdocfiaaA8
import Derived.WalkSmall
set_option linter.unusedVariables false
set_option linter.unusedSimpArgs false
set_option linter.unnecessarySimpa false
namespace Go.Proofs.Ythljjllcdocfiaa
open Go Go.RowKit Go.MapKept

/-- a number into an ascending list -/
def insI (l : List Int) (x : Int) : List Int := l.takeWhile (fun y => decide (y < x)) ++ x :: l.dropWhile (fun y => decide (y < x))
def drvStep (o : List Int) (c : Cp) : List Int := if cnt c && !hasI o c.2.1 then insI o c.2.1 else o
/-- the drives of the copies that are not ignored, in ascending order, each once -/
def drvL (l : List Cp) : List Int := l.foldl drvStep []
theorem drv_take {l : List Cp} {k : Nat} {c : Cp} (h : l[k]? = some c) : drvL (l.take (k + 1)) = drvStep (drvL (l.take k)) c := by
  unfold drvL
  rw [List.take_add_one, h, List.foldl_append]
  rfl
theorem while_split (D : List Int) (x : Int) (k : Nat) (h1 : ∀ j, j < k → D.getD j 0 < x) (hk : k ≤ D.length) (h2 : k < D.length → ¬ D.getD k 0 < x) : D.takeWhile (fun y => decide (y < x)) = D.take k ∧ D.dropWhile (fun y => decide (y < x)) = D.drop k := by
  induction D generalizing k with
  | nil => simp
  | cons y D ih =>
    cases k with
    | zero =>
      have := h2 (by simp)
      simp at this
      simp [show ¬ y < x by omega]
    | succ k =>
      have h0 := h1 0 (by omega)
      simp at h0
      obtain ⟨e1, e2⟩ := ih k (fun j hj => by have := h1 (j + 1) (by omega); simpa using this) (by simpa using hk) (fun hk => by have := h2 (by simpa using hk); simpa using this)
      simp [h0, e1, e2]
theorem insI_at {D : List Int} {x : Int} {k : Nat} (h1 : ∀ j, j < k → D.getD j 0 < x) (hk : k ≤ D.length) (h2 : k < D.length → ¬ D.getD k 0 < x) : insI D x = D.take k ++ [x] ++ D.drop k := by
  obtain ⟨e1, e2⟩ := while_split D x k h1 hk h2
  unfold insI
  rw [e1, e2]
  simp
theorem insI_len (D : List Int) (x : Int) : (insI D x).length = D.length + 1 := by
  unfold insI
  rw [List.length_append, List.length_cons]
  have := congrArg List.length (List.takeWhile_append_dropWhile (p := fun y => decide (y < x)) (l := D))
  rw [List.length_append] at this
  omega
theorem drvStep_len (o : List Int) (c : Cp) : (drvStep o c).length ≤ o.length + 1 := by
  unfold drvStep
  split
  · rw [insI_len]; omega
  · omega
theorem drv_len (l : List Cp) : ∀ k, (drvL (l.take k)).length ≤ k
  | 0 => by simp [drvL]
  | k + 1 => by
    cases h : l[k]? with
    | none =>
      have e : l.take (k + 1) = l.take k := by rw [List.take_add_one, h]; simp
      rw [e]
      have := drv_len l k
      omega
    | some c =>
      rw [drv_take h]
      have := drvStep_len (drvL (l.take k)) c
      have := drv_len l k
      omega



set_option maxHeartbeats 4000000 in
set_option maxRecDepth 20000 in
theorem Drives_any (v : Value) (l : List Cp) (w : World) (h : Rd eC w v l) (hl : l.length ≤ 1000) : Calls Try.prog 26 #[v] w (IsInts w (drvL l)) := by
  obtain ⟨a, cap, rfl, hlen⟩ := h.open
  have H := Lib.hid h
  obtain ⟨n, hn⟩ : ∃ n, l.length = n := ⟨_, rfl⟩
  have HN := Lib.hid hn
  rw [hn] at hlen hl ⊢
  clear h hn
  go_enter Try.func26, Try.ntmps26
  go_wp2_with fail
  go_loopw [3, 4] (fun x y wr => ∃ (i m : Nat) (p : Option Addr) (c : Nat) (D : List Int), i ≤ n ∧ y = .int .i64 i ∧ x = .slice p m c ∧ m ≤ i ∧ Hid (D.length = m) ∧ Hid (drvL (l.take i) = D) ∧ Hid (Ow eI 3 w wr (.slice p m c) D)) (fun _ y _ => n - (intOf y).toNat)
  case atStart => exact ⟨0, 0, none, 0, [], by omega, rfl, rfl, by omega, Lib.hid rfl, Lib.hid rfl, Lib.hid (Ow.start 3 w)⟩
  case round =>
    rename World => wr
    obtain ⟨i, m, p, c, D, hi, rfl, rfl, hmi, HM, HD, HO⟩ := hrel
    by_cases hin : i < n
    · obtain ⟨x, hx⟩ : ∃ x, l[i]? = some x := ⟨l[i]'(by rw [HN.out]; exact hin), by simp⟩
      have HR := Lib.hid (H.out.below HO.out.below (Nat.le_refl _))
      rw [HN.out] at HR
      obtain ⟨b, off, rfl, hb, c0, c1, c2⟩ := HR.out.cp hx
      have HS := Lib.hid (drv_take hx)
      have HX := Lib.hid hx
      obtain ⟨f, d, t⟩ := x
      simp only at c0 c1 c2
      rw [HD.out] at HS
      obtain ⟨q, hq⟩ : ∃ q, cnt (f, d, t) = q := ⟨_, rfl⟩
      have HQ := Lib.hid hq
      obtain ⟨z, hz⟩ : ∃ z, hasI D d = z := ⟨_, rfl⟩
      have HZ := Lib.hid hz
      clear hx hq hz
      cases q with
      | false =>
        have HE := Lib.hid (show drvL (l.take (i + 1)) = D by rw [HS.out]; unfold drvStep; rw [HQ.out]; rfl)
        go_wp2_with (first
          | (go_at_call 43; (with_reducible refine (Counts_as _ _ _ HQ.out _).mono ?_); rintro e w1 ⟨rfl, hb1⟩; have HO1 := Lib.hid (HO.out.grow hb1); clear hb1))
        go_roundw
        case rel => exact ⟨i + 1, m, p, c, D, by omega, by go_num, rfl, by omega, HM, HE, HO1⟩
        case measure => simp [intOf]; omega
      | true =>
        cases z with
        | true =>
          have HE := Lib.hid (show drvL (l.take (i + 1)) = D by rw [HS.out]; unfold drvStep; simp only [HQ.out, HZ.out]; rfl)
          go_wp2_with (first
            | (go_at_call 43; (with_reducible refine (Counts_as _ _ _ HQ.out _).mono ?_); rintro e w1 ⟨rfl, hb1⟩; have HO1 := Lib.hid (HO.out.grow hb1); obtain ⟨d0, d1, d2⟩ := (HR.out.keep hb1).cp' HX.out; have hb9 := Nat.lt_of_lt_of_le hb hb1.size; have HW := Lib.hid ((HM.out ▸ HO1.out).rd (by have := HM.out; omega)); clear hb1)
            | (go_at_call 44; (with_reducible refine (has_as _ D _ _ (HM.out ▸ HW.out) HZ.out).mono ?_); rintro e w2 ⟨rfl, rfl⟩))
          go_roundw
          case rel => exact ⟨i + 1, m, p, c, D, by omega, by go_num, rfl, by omega, HM, HE, HO1⟩
          case measure => simp [intOf]; omega
        | false =>
          have HE := Lib.hid (show drvL (l.take (i + 1)) = insI D d by rw [HS.out]; unfold drvStep; simp only [HQ.out, HZ.out]; rfl)
          go_wp2_with (first
            | (go_at_call 43; (with_reducible refine (Counts_as _ _ _ HQ.out _).mono ?_); rintro e w1 ⟨rfl, hb1⟩; have HO1 := Lib.hid (HO.out.grow hb1); have HR1 := Lib.hid (HR.out.keep hb1); obtain ⟨d0, d1, d2⟩ := HR1.out.cp' HX.out; have hb9 := Nat.lt_of_lt_of_le hb hb1.size; have HW := Lib.hid ((HM.out ▸ HO1.out).rd (by have := HM.out; omega)); clear hb1)
            | (go_at_call 44; (with_reducible refine (has_as _ D _ _ (HM.out ▸ HW.out) HZ.out).mono ?_); rintro e w2 ⟨rfl, rfl⟩))
          clear c0 c1 c2
          go_loopw [5] (fun y wq => ∃ k : Nat, k ≤ m ∧ y = .int .i64 k ∧ Hid (∀ j, j < k → D.getD j 0 < d) ∧ Hid (Below w1.heap.size w1 wq)) (fun y _ => m - (intOf y).toNat)
          case atStart => exact ⟨0, by omega, rfl, Lib.hid (fun j hj => by omega), Lib.hid (Below.refl _ _)⟩
          case round =>
            rename World => wq
            obtain ⟨k, hkm, rfl, HP, HB⟩ := hrel
            have y1 := (HB.out.cell (p := ⟨b, off + i * 3 + 1, none⟩) hb9).trans d1
            have hbq := Nat.lt_of_lt_of_le hb9 HB.out.size
            by_cases hk : k < m
            · have q1 : decide (k < m) = true := by simpa using hk
              have hWq := HW.out.keep HB.out
              rw [HM.out] at hWq
              obtain ⟨g, go, rfl, hg, ck⟩ := hWq.int (by rw [HM.out]; exact hk)
              obtain ⟨x, hx⟩ : ∃ x, D.getD k 0 = x := ⟨_, rfl⟩
              rw [hx] at ck
              have HX := Lib.hid hx
              have HWQ := Lib.hid hWq
              clear hx hWq
              by_cases hxd : x < d
              · go_wp2_with fail
                go_quiet (fail)
                go_wp2_with fail
                go_roundw
                case rel =>
                  refine ⟨k + 1, by omega, by go_num, Lib.hid (fun j hj => ?_), Lib.hid (below_drewN HB.out _)⟩
                  by_cases e : j = k
                  · subst e; rw [HX.out]; exact hxd
                  · exact HP.out j (by omega)
                case measure => simp [intOf]; omega
              · have HK2 : Hid (k < D.length → ¬ D.getD k 0 < d) := Lib.hid (fun _ => by rw [HX.out]; exact hxd)
                go_wp2_with fail
                go_quiet (fail)
                go_wp2_with fail
                obtain ⟨hc1, hc2, -, hgo⟩ := HO1.out.cap
                simp only at hgo
                subst hgo
                obtain ⟨sa, hif⟩ : ∃ sa, (if c = k then (some ⟨g, 0, none⟩ : Option Addr) else some ⟨g, k, none⟩) = sa := ⟨_, rfl⟩
                have HS1 := Lib.hid ((HWQ.out.keep (below_drewN (Below.refl _ _) nq)).head (i := k) (by rw [HM.out]; omega) c)
                have HS2 := Lib.hid (show Src (wq.drewN nq) (.slice sa (m - k) (c - k)) 1 (m - k) (eI.flat (D.drop k)) by
                  have := (HWQ.out.keep (below_drewN (Below.refl _ _) nq)).tail (i := k) HM.out (by rw [HM.out]; omega) (c - k)
                  rw [← hif, if_neg (by omega)]
                  simpa [eI] using this)
                have HZB := Lib.hid (below_drewN (HO1.out.below.trans (HB.out.mono HO1.out.below.size)) nq)
                have z1 : (wq.drewN nq).cell? ⟨b, off + i * 3 + 1, none⟩ = some (.int .i64 d) := y1
                have hbz : b < (wq.drewN nq).heap.size := hbq
                have hkc : k ≤ c := by omega
                clear y1 hbq ck
                generalize wq.drewN nq = wz at *
                (have HF1 := Lib.hid (insI_at HP.out (show k ≤ D.length by rw [HM.out]; exact hkm) (fun h => by have := HK2.out h; omega))
                 refine wp_region_pick_tail (Below wz.heap.size wz) (AS wz 3 1 (.slice none 0 0) 0 [] []) [0, 1, 2, 4, 5, 6, 7, 8, 11, 12, 13] 4 15 (by kernel_rfl) ?_ AS.stable AS.base (AS.start wz 3 1) ?_
                 · kernel_rfl
                 repeat (apply pRow_plain
                         · exact rfl
                         · exact rfl
                         · intro wg hg
                           ((have x1 := (hg.cell (p := ⟨b, off + i * 3 + 1, none⟩) hbz).trans z1))
                           go_simp
                           first
                             | exact rfl
                             | exact Below.refl _ _
                             | exact ⟨Below.refl _ _, rfl⟩
                             | ((fail))
                         intro K hK
                         go_simp
                         refine hK _ ?_
                         clear hK K)
                 refine pRow_nil ?_
                 refine lAnyL_step [3, 9] ?_ (by simp) (by decide) ?_
                 · kernel_rfl
                 intro j hj
                 have hj' : j = 3 ∨ j = 9 := by simpa using hj
                 rcases hj' with rfl | rfl
                 · refine lOp_app elt31 _ _ rfl rfl rfl rfl rfl (fun wg hg => HS1.out.below hg.below) (by omega) ?_
                   intro u1
                   go_simp
                   refine lAnyL_step [9] ?_ (by simp) (by decide) ?_
                   · kernel_rfl
                   intro j hj
                   obtain rfl : j = 9 := by simpa using hj
                   refine lOp_build #[.int .i64 d] rfl rfl (fun w => by go_simp) ?_
                   intro bx
                   go_simp
                   (refine lAnyL_step [10] ?_ (by simp) (by decide) ?_
                    · kernel_rfl
                    intro j hj
                    obtain rfl : j = 10 := by simpa using hj
                    refine lOp_app elt31 _ _ rfl rfl rfl rfl rfl (fun wg hg => hg.src (c := #[.int .i64 d]) (by simp) rfl (by intro u hu; simp at hu; subst hu; rfl)) (by omega) ?_
                    intro u2
                    go_simp
                    refine lAnyL_step [14] ?_ (by simp) (by decide) ?_
                    · kernel_rfl
                    intro j hj
                    obtain rfl : j = 14 := by simpa using hj
                    refine lOp_app elt31 _ _ rfl rfl rfl rfl rfl (fun wg hg => HS2.out.below hg.below) (by omega) ?_
                    intro u3
                    go_simp
                    refine ⟨?_, ?_⟩
                    · kernel_rfl
                    intro wg hg
                    obtain ⟨ua, ucap, rfl⟩ := owns_val hg.row
                    have HG2 := Lib.hid (own_of (E := eI) hg (I := insI D d) (by have := insI_len D d; have := HM.out; omega) (by rw [HF1.out, flat_app, flat_app, List.append_assoc]; first | rfl | (rw [hD0]; rfl)))
                    clear hg
                    go_wp2
                    go_roundw
                    case rel => exact ⟨i + 1, _, ua, ucap, insI D d, by omega, by go_num, rfl, by omega, Lib.hid (by have := insI_len D d; have := HM.out; omega), HE, Lib.hid (HG2.out.down HZB.out)⟩
                    case measure => simp [intOf]; omega)
                 · refine lOp_build #[.int .i64 d] rfl rfl (fun w => by go_simp) ?_
                   intro bx
                   go_simp
                   refine lAnyL_step [3] ?_ (by simp) (by decide) ?_
                   · kernel_rfl
                   intro j hj
                   obtain rfl : j = 3 := by simpa using hj
                   refine lOp_app elt31 _ _ rfl rfl rfl rfl rfl (fun wg hg => HS1.out.below hg.below) (by omega) ?_
                   intro u1
                   go_simp
                   (refine lAnyL_step [10] ?_ (by simp) (by decide) ?_
                    · kernel_rfl
                    intro j hj
                    obtain rfl : j = 10 := by simpa using hj
                    refine lOp_app elt31 _ _ rfl rfl rfl rfl rfl (fun wg hg => hg.src (c := #[.int .i64 d]) (by simp) rfl (by intro u hu; simp at hu; subst hu; rfl)) (by omega) ?_
                    intro u2
                    go_simp
                    refine lAnyL_step [14] ?_ (by simp) (by decide) ?_
                    · kernel_rfl
                    intro j hj
                    obtain rfl : j = 14 := by simpa using hj
                    refine lOp_app elt31 _ _ rfl rfl rfl rfl rfl (fun wg hg => HS2.out.below hg.below) (by omega) ?_
                    intro u3
                    go_simp
                    refine ⟨?_, ?_⟩
                    · kernel_rfl
                    intro wg hg
                    obtain ⟨ua, ucap, rfl⟩ := owns_val hg.row
                    have HG2 := Lib.hid (own_of (E := eI) hg (I := insI D d) (by have := insI_len D d; have := HM.out; omega) (by rw [HF1.out, flat_app, flat_app, List.append_assoc]; first | rfl | (rw [hD0]; rfl)))
                    clear hg
                    go_wp2
                    go_roundw
                    case rel => exact ⟨i + 1, _, ua, ucap, insI D d, by omega, by go_num, rfl, by omega, Lib.hid (by have := insI_len D d; have := HM.out; omega), HE, Lib.hid (HG2.out.down HZB.out)⟩
                    case measure => simp [intOf]; omega))
            · have q1 : decide (k < m) = false := by simpa using hk
              have HK2 : Hid (k < D.length → ¬ D.getD k 0 < d) := Lib.hid (fun h => by rw [HM.out] at h; omega)
              go_wp2_with fail
              go_quiet (fail)
              go_wp2_with fail
              have hkm2 : k = m := by omega
              have hDR : D.drop k = [] := List.drop_eq_nil_of_le (by rw [HM.out]; omega)
              have HZB := Lib.hid (below_drewN (HO1.out.below.trans (HB.out.mono HO1.out.below.size)) nq)
              have z1 : (wq.drewN nq).cell? ⟨b, off + i * 3 + 1, none⟩ = some (.int .i64 d) := y1
              have hbz : b < (wq.drewN nq).heap.size := hbq
              have HWQ := Lib.hid ((HM.out ▸ HW.out).keep (HB.out.trans (below_drewN (Below.refl _ wq) nq)))
              clear y1 hbq
              rcases p with _ | ⟨g, go, gs⟩
              · obtain ⟨h0, rfl, hD0⟩ := HO1.out.bare
                subst h0
                subst hkm2
                have HS1 : Hid (Src (wq.drewN nq) (.slice none 0 0) 1 0 (eI.flat (D.take 0))) := Lib.hid (src_none _ _)
                have HS2 : Hid (Src (wq.drewN nq) (.slice none (0 - 0) (0 - 0)) 1 (0 - 0) (eI.flat (D.drop 0))) := Lib.hid (by rw [hDR]; exact src_none _ _)
                clear hDR
                generalize wq.drewN nq = wz at *
                (have HF1 := Lib.hid (insI_at HP.out (show 0 ≤ D.length by rw [HM.out]; exact hkm) (fun h => by have := HK2.out h; omega))
                 refine wp_region_pick_tail (Below wz.heap.size wz) (AS wz 3 1 (.slice none 0 0) 0 [] []) [0, 1, 2, 4, 5, 6, 7, 8, 11, 12, 13] 4 15 (by kernel_rfl) ?_ AS.stable AS.base (AS.start wz 3 1) ?_
                 · kernel_rfl
                 repeat (apply pRow_plain
                         · exact rfl
                         · exact rfl
                         · intro wg hg
                           ((have x1 := (hg.cell (p := ⟨b, off + i * 3 + 1, none⟩) hbz).trans z1))
                           go_simp
                           first
                             | exact rfl
                             | exact Below.refl _ _
                             | exact ⟨Below.refl _ _, rfl⟩
                             | ((fail))
                         intro K hK
                         go_simp
                         refine hK _ ?_
                         clear hK K)
                 refine pRow_nil ?_
                 refine lAnyL_step [3, 9] ?_ (by simp) (by decide) ?_
                 · kernel_rfl
                 intro j hj
                 have hj' : j = 3 ∨ j = 9 := by simpa using hj
                 rcases hj' with rfl | rfl
                 · refine lOp_app elt31 _ _ rfl rfl rfl rfl rfl (fun wg hg => HS1.out.below hg.below) (by omega) ?_
                   intro u1
                   go_simp
                   refine lAnyL_step [9] ?_ (by simp) (by decide) ?_
                   · kernel_rfl
                   intro j hj
                   obtain rfl : j = 9 := by simpa using hj
                   refine lOp_build #[.int .i64 d] rfl rfl (fun w => by go_simp) ?_
                   intro bx
                   go_simp
                   (refine lAnyL_step [10] ?_ (by simp) (by decide) ?_
                    · kernel_rfl
                    intro j hj
                    obtain rfl : j = 10 := by simpa using hj
                    refine lOp_app elt31 _ _ rfl rfl rfl rfl rfl (fun wg hg => hg.src (c := #[.int .i64 d]) (by simp) rfl (by intro u hu; simp at hu; subst hu; rfl)) (by omega) ?_
                    intro u2
                    go_simp
                    refine lAnyL_step [14] ?_ (by simp) (by decide) ?_
                    · kernel_rfl
                    intro j hj
                    obtain rfl : j = 14 := by simpa using hj
                    refine lOp_app elt31 _ _ rfl rfl rfl rfl rfl (fun wg hg => HS2.out.below hg.below) (by omega) ?_
                    intro u3
                    go_simp
                    refine ⟨?_, ?_⟩
                    · kernel_rfl
                    intro wg hg
                    obtain ⟨ua, ucap, rfl⟩ := owns_val hg.row
                    have HG2 := Lib.hid (own_of (E := eI) hg (I := insI D d) (by have := insI_len D d; have := HM.out; omega) (by rw [HF1.out, flat_app, flat_app, List.append_assoc]; first | rfl | (rw [hD0]; rfl)))
                    clear hg
                    go_wp2
                    go_roundw
                    case rel => exact ⟨i + 1, _, ua, ucap, insI D d, by omega, by go_num, rfl, by omega, Lib.hid (by have := insI_len D d; have := HM.out; omega), HE, Lib.hid (HG2.out.down HZB.out)⟩
                    case measure => simp [intOf]; omega)
                 · refine lOp_build #[.int .i64 d] rfl rfl (fun w => by go_simp) ?_
                   intro bx
                   go_simp
                   refine lAnyL_step [3] ?_ (by simp) (by decide) ?_
                   · kernel_rfl
                   intro j hj
                   obtain rfl : j = 3 := by simpa using hj
                   refine lOp_app elt31 _ _ rfl rfl rfl rfl rfl (fun wg hg => HS1.out.below hg.below) (by omega) ?_
                   intro u1
                   go_simp
                   (refine lAnyL_step [10] ?_ (by simp) (by decide) ?_
                    · kernel_rfl
                    intro j hj
                    obtain rfl : j = 10 := by simpa using hj
                    refine lOp_app elt31 _ _ rfl rfl rfl rfl rfl (fun wg hg => hg.src (c := #[.int .i64 d]) (by simp) rfl (by intro u hu; simp at hu; subst hu; rfl)) (by omega) ?_
                    intro u2
                    go_simp
                    refine lAnyL_step [14] ?_ (by simp) (by decide) ?_
                    · kernel_rfl
                    intro j hj
                    obtain rfl : j = 14 := by simpa using hj
                    refine lOp_app elt31 _ _ rfl rfl rfl rfl rfl (fun wg hg => HS2.out.below hg.below) (by omega) ?_
                    intro u3
                    go_simp
                    refine ⟨?_, ?_⟩
                    · kernel_rfl
                    intro wg hg
                    obtain ⟨ua, ucap, rfl⟩ := owns_val hg.row
                    have HG2 := Lib.hid (own_of (E := eI) hg (I := insI D d) (by have := insI_len D d; have := HM.out; omega) (by rw [HF1.out, flat_app, flat_app, List.append_assoc]; first | rfl | (rw [hD0]; rfl)))
                    clear hg
                    go_wp2
                    go_roundw
                    case rel => exact ⟨i + 1, _, ua, ucap, insI D d, by omega, by go_num, rfl, by omega, Lib.hid (by have := insI_len D d; have := HM.out; omega), HE, Lib.hid (HG2.out.down HZB.out)⟩
                    case measure => simp [intOf]; omega))
              · obtain ⟨hc1, hc2, hgs, hgo⟩ := HO1.out.cap
                simp only at hgo hgs
                subst hgo hgs
                obtain ⟨sa, hif⟩ : ∃ sa, (if c = k then (some ⟨g, 0, none⟩ : Option Addr) else some ⟨g, k, none⟩) = sa := ⟨_, rfl⟩
                have HS1 := Lib.hid (HWQ.out.head (i := k) (by rw [HM.out]; omega) c)
                have HS2 := Lib.hid (show Src (wq.drewN nq) (.slice sa (m - k) (c - k)) 1 (m - k) (eI.flat (D.drop k)) by
                  rw [hDR, show m - k = 0 by omega]
                  exact src_none _ _)
                have hkc : k ≤ c := by omega
                have HKM := Lib.hid hkm2
                clear hDR hkm2
                generalize wq.drewN nq = wz at *
                (have HF1 := Lib.hid (insI_at HP.out (show k ≤ D.length by rw [HM.out]; exact hkm) (fun h => by have := HK2.out h; omega))
                 refine wp_region_pick_tail (Below wz.heap.size wz) (AS wz 3 1 (.slice none 0 0) 0 [] []) [0, 1, 2, 4, 5, 6, 7, 8, 11, 12, 13] 4 15 (by kernel_rfl) ?_ AS.stable AS.base (AS.start wz 3 1) ?_
                 · kernel_rfl
                 repeat (apply pRow_plain
                         · exact rfl
                         · exact rfl
                         · intro wg hg
                           ((have x1 := (hg.cell (p := ⟨b, off + i * 3 + 1, none⟩) hbz).trans z1))
                           go_simp
                           first
                             | exact rfl
                             | exact Below.refl _ _
                             | exact ⟨Below.refl _ _, rfl⟩
                             | ((fail))
                         intro K hK
                         go_simp
                         refine hK _ ?_
                         clear hK K)
                 refine pRow_nil ?_
                 refine lAnyL_step [3, 9] ?_ (by simp) (by decide) ?_
                 · kernel_rfl
                 intro j hj
                 have hj' : j = 3 ∨ j = 9 := by simpa using hj
                 rcases hj' with rfl | rfl
                 · refine lOp_app elt31 _ _ rfl rfl rfl rfl rfl (fun wg hg => HS1.out.below hg.below) (by omega) ?_
                   intro u1
                   go_simp
                   refine lAnyL_step [9] ?_ (by simp) (by decide) ?_
                   · kernel_rfl
                   intro j hj
                   obtain rfl : j = 9 := by simpa using hj
                   refine lOp_build #[.int .i64 d] rfl rfl (fun w => by go_simp) ?_
                   intro bx
                   go_simp
                   (refine lAnyL_step [10] ?_ (by simp) (by decide) ?_
                    · kernel_rfl
                    intro j hj
                    obtain rfl : j = 10 := by simpa using hj
                    refine lOp_app elt31 _ _ rfl rfl rfl rfl rfl (fun wg hg => hg.src (c := #[.int .i64 d]) (by simp) rfl (by intro u hu; simp at hu; subst hu; rfl)) (by omega) ?_
                    intro u2
                    go_simp
                    refine lAnyL_step [14] ?_ (by simp) (by decide) ?_
                    · kernel_rfl
                    intro j hj
                    obtain rfl : j = 14 := by simpa using hj
                    refine lOp_app elt31 _ _ rfl rfl rfl rfl rfl (fun wg hg => HS2.out.below hg.below) (by omega) ?_
                    intro u3
                    go_simp
                    refine ⟨?_, ?_⟩
                    · kernel_rfl
                    intro wg hg
                    obtain ⟨ua, ucap, rfl⟩ := owns_val hg.row
                    have HG2 := Lib.hid (own_of (E := eI) hg (I := insI D d) (by have := insI_len D d; have := HM.out; omega) (by rw [HF1.out, flat_app, flat_app, List.append_assoc]; first | rfl | (rw [hD0]; rfl)))
                    clear hg
                    go_wp2
                    go_roundw
                    case rel => exact ⟨i + 1, _, ua, ucap, insI D d, by omega, by go_num, rfl, by omega, Lib.hid (by have := insI_len D d; have := HM.out; omega), HE, Lib.hid (HG2.out.down HZB.out)⟩
                    case measure => simp [intOf]; omega)
                 · refine lOp_build #[.int .i64 d] rfl rfl (fun w => by go_simp) ?_
                   intro bx
                   go_simp
                   refine lAnyL_step [3] ?_ (by simp) (by decide) ?_
                   · kernel_rfl
                   intro j hj
                   obtain rfl : j = 3 := by simpa using hj
                   refine lOp_app elt31 _ _ rfl rfl rfl rfl rfl (fun wg hg => HS1.out.below hg.below) (by omega) ?_
                   intro u1
                   go_simp
                   (refine lAnyL_step [10] ?_ (by simp) (by decide) ?_
                    · kernel_rfl
                    intro j hj
                    obtain rfl : j = 10 := by simpa using hj
                    refine lOp_app elt31 _ _ rfl rfl rfl rfl rfl (fun wg hg => hg.src (c := #[.int .i64 d]) (by simp) rfl (by intro u hu; simp at hu; subst hu; rfl)) (by omega) ?_
                    intro u2
                    go_simp
                    refine lAnyL_step [14] ?_ (by simp) (by decide) ?_
                    · kernel_rfl
                    intro j hj
                    obtain rfl : j = 14 := by simpa using hj
                    refine lOp_app elt31 _ _ rfl rfl rfl rfl rfl (fun wg hg => HS2.out.below hg.below) (by omega) ?_
                    intro u3
                    go_simp
                    refine ⟨?_, ?_⟩
                    · kernel_rfl
                    intro wg hg
                    obtain ⟨ua, ucap, rfl⟩ := owns_val hg.row
                    have HG2 := Lib.hid (own_of (E := eI) hg (I := insI D d) (by have := insI_len D d; have := HM.out; omega) (by rw [HF1.out, flat_app, flat_app, List.append_assoc]; first | rfl | (rw [hD0]; rfl)))
                    clear hg
                    go_wp2
                    go_roundw
                    case rel => exact ⟨i + 1, _, ua, ucap, insI D d, by omega, by go_num, rfl, by omega, Lib.hid (by have := insI_len D d; have := HM.out; omega), HE, Lib.hid (HG2.out.down HZB.out)⟩
                    case measure => simp [intOf]; omega))
    · obtain rfl : i = n := by omega
      have HF := Lib.hid (show D = drvL l by rw [← HD.out, ← HN.out, List.take_length])
      go_wp2_with fail
      go_ret
      have := HO.out
      rw [← HM.out] at this ⊢
      rw [HF.out] at this ⊢
      exact ⟨p, c, rfl, this⟩
end Go.Proofs.Ythljjllcdocfiaa
