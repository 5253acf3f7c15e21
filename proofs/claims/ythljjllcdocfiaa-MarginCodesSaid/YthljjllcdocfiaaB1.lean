/- The reference's minimal. -/
import Derived.Test.YthljjllcdocfiaaA9
set_option linter.unusedVariables false
set_option linter.unusedSimpArgs false
set_option linter.unnecessarySimpa false
namespace Go.Proofs.Ythljjllcdocfiaa
open Go Go.RowKit Go.MapKept

/-- the list without one element -/
def cutI (l : List Int) (i : Nat) : List Int := l.take i ++ l.drop (i + 1)
theorem cutI_len {l : List Int} {i : Nat} (h : i < l.length) : (cutI l i).length = l.length - 1 := by unfold cutI; simp; omega
/-- is every smaller set survived -/
def minB (k st : Int) (l : List Cp) (set : List Int) : Bool := (List.range set.length).all fun i => survF k st l (cutI set i)
theorem minB_iff {k st : Int} {l : List Cp} {set : List Int} : minB k st l set = true ↔ ∀ i, i < set.length → survF k st l (cutI set i) = true := by
  unfold minB
  simp

set_option maxHeartbeats 4000000 in
set_option maxRecDepth 20000 in
theorem minimal_as (v d : Value) (k st : Int) (l : List Cp) (set : List Int) (w : World) (h : Rd eC w v l) (hd : Rd eI w d set) (hl : l.length ≤ 1000) (hs : set.length ≤ 1000) {q : Bool} (hq : minB k st l set = q) : Calls Try.prog 42 #[.int .i64 k, .int .i64 st, v, d] w fun e w' => e = .returned (.bool q) ∧ Below w.heap.size w w' := by
  obtain ⟨a, cap, rfl, hlen⟩ := h.open
  obtain ⟨a2, c, rfl, hlen2⟩ := hd.open
  have H := Lib.hid h
  have HQ := Lib.hid hq
  have HD := Lib.hid hd
  obtain ⟨n, hn⟩ : ∃ n, set.length = n := ⟨_, rfl⟩
  have HN := Lib.hid hn
  obtain ⟨n1, hn1⟩ : ∃ n, l.length = n := ⟨_, rfl⟩
  have HN1 := Lib.hid hn1
  rw [hn] at hlen2 hs ⊢
  rw [hn1] at hlen hl ⊢
  clear h hd hn hq hn1
  go_enter Try.func42, Try.ntmps42
  go_wp2_with fail
  go_loopw [9] (fun y wr => ∃ i : Nat, i ≤ n ∧ y = .int .i64 i ∧ Hid (∀ j, j < i → survF k st l (cutI set j) = true) ∧ Hid (Below w.heap.size w wr)) (fun y _ => n - (intOf y).toNat)
  case atStart => exact ⟨0, by omega, rfl, Lib.hid (fun j hj => by omega), Lib.hid (Below.refl _ _)⟩
  case round =>
    rename World => wr
    obtain ⟨i, hi, rfl, HP, HB⟩ := hrel
    by_cases hin : i < n
    · have HR := Lib.hid (HD.out.below HB.out (Nat.le_refl _))
      rw [HN.out] at HR
      obtain ⟨b, off, rfl, hb, c0⟩ := HR.out.int (i := i) (by rw [HN.out]; exact hin)
      obtain ⟨hc1, hc2, -⟩ := HR.out.caps
      obtain ⟨sa, hif⟩ : ∃ sa, (if c = i + 1 then (some ⟨b, off, none⟩ : Option Addr) else some ⟨b, off + (i + 1), none⟩) = sa := ⟨_, rfl⟩
      have HS1 := Lib.hid (HR.out.head (i := i) (by rw [HN.out]; omega) c)
      have HS2 := Lib.hid (show Src wr (.slice sa (n - (i + 1)) (c - (i + 1))) 1 (n - (i + 1)) (eI.flat (set.drop (i + 1))) by
        by_cases e : n = i + 1
        · rw [show n - (i + 1) = 0 by omega, List.drop_eq_nil_of_le (by rw [HN.out]; omega)]
          exact src_none _ _
        · have := HR.out.tail (i := i + 1) HN.out (by rw [HN.out]; omega) (c - (i + 1))
          rw [← hif, if_neg (by omega)]
          simpa [eI] using this)
      have HR1 := Lib.hid (H.out.below HB.out (Nat.le_refl _))
      rw [HN1.out] at HR1
      have hkc : i ≤ c ∧ i + 1 ≤ c ∧ i + 1 ≤ n := by omega
      obtain ⟨hkc1, hkc2, hkc3⟩ := hkc
      have hL := Lib.hid (show (cutI set i).length ≤ 1000 by rw [cutI_len (by rw [HN.out]; exact hin), HN.out]; omega)
      obtain ⟨z, hz⟩ : ∃ z, survF k st l (cutI set i) = z := ⟨_, rfl⟩
      have HZ := Lib.hid hz
      have hwi : IntKind.i64.wrap ((i : Int) + 1) = (i : Int) + 1 := IntWalk.i64_in _ (by omega)
      have hw0 : (0 : Int) ≤ (i : Int) + 1 := by omega
      have hin2 : (i : Int) + 1 ≤ (n : Int) := by omega
      have hwn : ((i : Int) + 1).toNat = i + 1 := by omega
      clear c0 hz
      go_wp2_with fail
      refine wp_region_pick_tail (Below wr.heap.size wr) (AS wr 3 1 (.slice none 0 0) 0 [] []) [0, 1, 2, 3, 4, 5, 7, 8, 9, 10] 3 13 (by kernel_rfl) ?_ AS.stable AS.base (AS.start wr 3 1) ?_
      · kernel_rfl
      repeat (apply pRow_plain
              · exact rfl
              · exact rfl
              · intro wg hg
                ((skip))
                go_simp
                first
                  | exact rfl
                  | exact Below.refl _ _
                  | exact ⟨Below.refl _ _, rfl⟩
                  | ((fail))
              intro K hK
              go_simp
              refine hK _ ?_
              clear hK K)
      refine pRow_nil ?_
      refine lAnyL_step [6] ?_ (by simp) (by decide) ?_
      · kernel_rfl
      intro j hj
      obtain rfl : j = 6 := by simpa using hj
      refine lOp_app elt31 _ _ rfl rfl rfl rfl rfl (fun wg hg => HS1.out.below hg.below) (by omega) ?_
      intro u1
      go_simp
      refine lAnyL_step [11] ?_ (by simp) (by decide) ?_
      · kernel_rfl
      intro j hj
      obtain rfl : j = 11 := by simpa using hj
      refine lOp_app elt31 _ _ rfl rfl rfl rfl rfl (fun wg hg => HS2.out.below hg.below) (by omega) ?_
      intro u2
      go_simp
      refine lAnyL_step [12] ?_ (by simp) (by decide) ?_
      · kernel_rfl
      intro j hj
      obtain rfl : j = 12 := by simpa using hj
      refine lOp_special' rfl (fun u w' => u = .bool z ∧ Below wr.heap.size wr w') rfl ?_ ?_ ?_ ?_
      · rintro u w1 w2 ⟨rfl, h1⟩ h2; exact ⟨rfl, h1.trans (h2.mono h1.size)⟩
      · rintro u w1 ⟨rfl, h1⟩; exact h1
      · intro wg hg
        obtain ⟨ua, ucap, rfl⟩ := owns_val hg.row
        have HG := own_of (E := eI) hg (I := cutI set i) (by have := cutI_len (l := set) (i := i) (by rw [HN.out]; exact hin); have := HN.out; omega) (by unfold cutI; exact (flat_app _ _).symm)
        have hr := HG.rd (by have := hL.out; omega)
        have hlx := (HR1.out.keep HG.below)
        go_simp
        refine (RSurvives_as _ _ k st l (cutI set i) _ hlx hr (by rw [HN1.out]; exact hl) HZ.out).mono ?_
        rintro e w2 ⟨rfl, h2⟩
        exact ⟨_, rfl, rfl, HG.below.trans (h2.mono HG.below.size)⟩
      · rintro u ⟨w2, rfl, -⟩
        go_simp
        refine ⟨?_, ?_⟩
        · kernel_rfl
        intro wg hb
        have HB2 := Lib.hid (HB.out.trans (hb.mono HB.out.size))
        clear hb
        cases z with
        | true =>
          go_wp2_with fail
          go_roundw
          case rel =>
            refine ⟨i + 1, by omega, by go_num, Lib.hid (fun j hj => ?_), HB2⟩
            by_cases e : j = i
            · subst e; exact HZ.out
            · exact HP.out j (by omega)
          case measure => simp [intOf]; omega
        | false =>
          go_wp2_with fail
          go_ret
          refine ⟨ret_bool ?_, HB2.out⟩
          rw [← HQ.out]
          cases h : minB k st l set with
          | false => rfl
          | true =>
            have := minB_iff.1 h i (by rw [HN.out]; exact hin)
            rw [HZ.out] at this
            cases this
    · obtain rfl : i = n := by omega
      go_wp2_with fail
      go_ret
      refine ⟨ret_bool ?_, HB.out⟩
      rw [← HQ.out, minB_iff.2 (fun j hj => HP.out j (by rw [HN.out] at hj; exact hj))]
end Go.Proofs.Ythljjllcdocfiaa
