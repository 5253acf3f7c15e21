/- Walks: Within, Near, SameInts, SameSets at equal lists. -/
import Derived.Test.YthljjllcdocfiaaD5
set_option linter.unusedVariables false
set_option linter.unusedSimpArgs false
set_option linter.unnecessarySimpa false
namespace Go.Proofs.Ythljjllcdocfiaa
open Go Go.RowKit Go.MapKept

theorem tmod_emod (x n : Int) (h : 1 ≤ n) : (if x.tmod n < 0 then x.tmod n + n else x.tmod n) = x % n := by
  have h0 : 0 ≤ x % n := Int.emod_nonneg _ (by omega)
  have h1 : x % n < n := Int.emod_lt_of_pos _ (by omega)
  rcases Int.lt_or_le x 0 with hx | hx
  · have e : x.tmod n = -((-x) % n) := by
      have := Int.neg_tmod (-x) n
      rw [Int.neg_neg] at this
      rw [this, Int.tmod_eq_emod_of_nonneg (by omega)]
    rw [e]
    have g0 : 0 ≤ (-x) % n := Int.emod_nonneg _ (by omega)
    have g1 : (-x) % n < n := Int.emod_lt_of_pos _ (by omega)
    have key : x % n = if (-x) % n = 0 then 0 else n - (-x) % n := by
      have hx1 : x = n * (-((-x) / n)) + -((-x) % n) := by
        have := Int.mul_ediv_add_emod (-x) n
        rw [Int.mul_neg]; omega
      split
      · rename_i h0
        rw [h0] at hx1
        rw [hx1, Int.neg_zero, Int.add_zero]; exact Int.mul_emod_right _ _
      · rename_i hne
        have hx2 : x = (n - (-x) % n) + n * (-((-x) / n) - 1) := by rw [Int.mul_sub]; omega
        rw [hx2, Int.add_mul_emod_self_left]
        have : (-(n - -x % n + n * (-(-x / n) - 1))) % n = (-x) % n := by rw [← hx2]
        rw [this]
        exact Int.emod_eq_of_lt (by omega) (by omega)
    rw [key]
    split
    · split <;> omega
    · split <;> omega
  · rw [Int.tmod_eq_emod_of_nonneg hx, if_neg (by omega)]

set_option maxHeartbeats 1000000 in
theorem within_any (x n : Int) (w : World) (hn : 1 ≤ n) (hn2 : n ≤ 9223372036854775807) (h1 : -9223372036854775808 ≤ x) (h2 : x ≤ 9223372036854775807) :
    Calls Try.prog 14 #[.int .i64 x, .int .i64 n] w fun e w' => e = .returned (.int .i64 (x % n)) ∧ w = w' := by
  have he := tmod_emod x n hn
  have hn0 : ¬ n < 1 := by omega
  by_cases hneg : x.tmod n < 0
  · rw [if_pos hneg] at he
    have hb : 0 ≤ x % n ∧ x % n < n := ⟨Int.emod_nonneg _ (by omega), Int.emod_lt_of_pos _ (by omega)⟩
    have hw : wrap64 (x.tmod n + n) = x % n := by rw [he]; exact IntWalk.wrap64_in _ (by omega)
    have HW := Lib.hid hw
    clear he hw
    go_enter Try.func14, Try.ntmps14
    go_wp2_with fail
    go_ret
    exact ⟨congrArg (fun z => Ending.returned (.int .i64 z)) HW.out, rfl⟩
  · rw [if_neg hneg] at he
    have HE := Lib.hid he
    clear he
    go_enter Try.func14, Try.ntmps14
    go_wp2_with fail
    go_ret
    exact ⟨congrArg (fun z => Ending.returned (.int .i64 z)) HE.out, rfl⟩



set_option maxHeartbeats 2000000 in
theorem same_ints (v u : Value) (l : List Int) (w : World) (h : Rd eI w v l) (h2 : Rd eI w u l) : Calls Try.prog 17 #[v, u] w fun e w' => e = .returned (.bool true) ∧ Below w.heap.size w w' := by
  obtain ⟨a, cap, rfl, hlen⟩ := h.open
  obtain ⟨a2, cap2, rfl, hlen2⟩ := h2.open
  have H := Lib.hid h
  have H2 := Lib.hid h2
  obtain ⟨n, hn⟩ : ∃ n, l.length = n := ⟨_, rfl⟩
  have HN := Lib.hid hn
  rw [hn] at hlen ⊢
  clear h h2 hn hlen2
  go_enter Try.func17, Try.ntmps17
  go_wp2_with fail
  go_loopw [5] (fun s wr => ∃ k q : Nat, k ≤ n ∧ s = .int .i64 k ∧ wr = w.drewN q) (fun s _ => n - (intOf s).toNat)
  case atStart => exact ⟨0, 0, by omega, rfl, rfl⟩
  case round =>
    obtain ⟨k, q, hk, rfl, rfl⟩ := hrel
    by_cases hkn : k < n
    · have HR := H.out
      have HR2 := H2.out
      rw [HN.out] at HR HR2
      obtain ⟨b, off, rfl, hb, ck⟩ := HR.int (i := k) (by rw [HN.out]; exact hkn)
      obtain ⟨b2, off2, rfl, hb2, ck2⟩ := HR2.int (i := k) (by rw [HN.out]; exact hkn)
      generalize l.getD k 0 = x at *
      clear HR HR2
      go_wp2_with fail
      go_quiet (fail)
      go_wp2_with fail
      go_roundw
      case rel => exact ⟨k + 1, q + nq, by omega, by go_num, rfl⟩
      case measure => simp [intOf]; omega
    · go_wp2_with fail
      go_ret
      exact ⟨rfl, below_drewN (Below.refl _ _) _⟩

set_option maxHeartbeats 4000000 in
theorem same_sets {v u : Value} {hs hs2 : List Hd} {L : List (List Int)} {w : World} (h : RR w v hs L) (h2 : RR w u hs2 L) : Calls Try.prog 24 #[v, u] w fun e w' => e = .returned (.bool true) ∧ Below w.heap.size w w' := by
  obtain ⟨a, cap, rfl, hlen⟩ := h.rd.open
  obtain ⟨a2, cap2, rfl, hlen2⟩ := h2.rd.open
  have H := Lib.hid h
  have H2 := Lib.hid h2
  obtain ⟨n, hn⟩ : ∃ n, hs.length = n := ⟨_, rfl⟩
  have HN := Lib.hid hn
  have hn2 : hs2.length = n := by rw [h2.len, ← h.len, hn]
  have HN2 := Lib.hid hn2
  have HNL := Lib.hid (show L.length = n by rw [← h.len, hn])
  rw [hn] at hlen ⊢
  rw [hn2] at hlen2 ⊢
  clear h h2 hn hn2
  go_enter Try.func24, Try.ntmps24
  go_wp2_with fail
  go_loopw [5] (fun s wr => ∃ k : Nat, k ≤ n ∧ s = .int .i64 k ∧ Hid (Below w.heap.size w wr)) (fun s _ => n - (intOf s).toNat)
  case atStart => exact ⟨0, by omega, rfl, Lib.hid (Below.refl _ _)⟩
  case round =>
    rename World => wr
    obtain ⟨k, hk, rfl, HB⟩ := hrel
    by_cases hkn : k < n
    · have HR := (H.out.below HB.out (Nat.le_refl _)).rd
      have HR2 := (H2.out.below HB.out (Nat.le_refl _)).rd
      rw [HN.out] at HR
      rw [HN2.out] at HR2
      obtain ⟨x, hx⟩ : ∃ x, hs[k]? = some x := ⟨hs[k]'(by rw [HN.out]; exact hkn), by simp⟩
      obtain ⟨x2, hx2⟩ : ∃ x, hs2[k]? = some x := ⟨hs2[k]'(by rw [HN2.out]; exact hkn), by simp⟩
      obtain ⟨r, hr⟩ : ∃ x, L[k]? = some x := ⟨L[k]'(by rw [HNL.out]; exact hkn), by simp⟩
      obtain ⟨b, off, rfl, hb, ck⟩ := HR.hd hx
      obtain ⟨b2, off2, rfl, hb2, ck2⟩ := HR2.hd hx2
      have r1 := H.out.row k x r hx hr
      have r2 := H2.out.row k x2 r hx2 hr
      obtain ⟨xa, xn, xc⟩ := x
      obtain ⟨ya, yn, yc⟩ := x2
      simp only at ck ck2
      have R1 := Lib.hid (show Rd eI w (.slice xa xn xc) r from r1)
      have R2 := Lib.hid (show Rd eI w (.slice ya yn yc) r from r2)
      have e1 := R1.out.caps.2.2
      have e2 := R2.out.caps.2.2
      obtain rfl : yn = xn := by omega
      have K1 := Lib.hid (fun (wg : World) (hw : Below w.heap.size w wg) => less_as _ _ r r wg (R1.out.keep hw) (R2.out.keep hw) (less_irrefl r))
      have K2 := Lib.hid (fun (wg : World) (hw : Below w.heap.size w wg) => less_as _ _ r r wg (R2.out.keep hw) (R1.out.keep hw) (less_irrefl r))
      clear HR HR2 hx hx2 hr r1 r2 e1 e2
      go_wp2_with fail
      refine wp_region_grow (Below wr.heap.size wr) (by kernel_rfl) (by kernel_rfl) (Below.refl _ _).drew ?_
      try simp only [List.append_eq, List.cons_append, List.nil_append]
      repeat first
               | (apply gRow_plain
                  · exact rfl
                  · intro wg hg
                    ((have x1 := (hg.cell (p := ⟨b, off + k, none⟩) hb).trans ck; have x2 := (hg.cell (p := ⟨b2, off2 + k, none⟩) hb2).trans ck2; have hbw := HB.out.trans (hg.mono HB.out.size)))
                    go_simp
                    first
                      | exact rfl
                      | exact hg
                      | exact ⟨hg, rfl⟩
                      | ((first
| ((with_reducible refine (K1.out _ hbw).mono ?_); rintro e w' ⟨rfl, nq, rfl⟩; exact ⟨rfl, below_drewN hg nq⟩)
| ((with_reducible refine (K2.out _ hbw).mono ?_); rintro e w' ⟨rfl, nq, rfl⟩; exact ⟨rfl, below_drewN hg nq⟩)))
                  intro K hK
                  go_simp
                  refine hK _ ?_
                  clear hK K)
               | (apply gRow_step
                  · go_simp; done
                  · intro wg hg
                    ((have x1 := (hg.cell (p := ⟨b, off + k, none⟩) hb).trans ck; have x2 := (hg.cell (p := ⟨b2, off2 + k, none⟩) hb2).trans ck2; have hbw := HB.out.trans (hg.mono HB.out.size)))
                    go_simp
                    first
                      | exact rfl
                      | exact hg
                      | exact ⟨hg, rfl⟩
                      | ((first
| ((with_reducible refine (K1.out _ hbw).mono ?_); rintro e w' ⟨rfl, nq, rfl⟩; exact ⟨rfl, below_drewN hg nq⟩)
| ((with_reducible refine (K2.out _ hbw).mono ?_); rintro e w' ⟨rfl, nq, rfl⟩; exact ⟨rfl, below_drewN hg nq⟩)))
                  intro K hK
                  go_simp
                  refine hK _ ?_
                  clear hK K)
               | (apply gRow_not
                  · go_simp; done
                  intro K hK
                  go_simp
                  refine hK _ ?_
                  clear hK K)
      refine gRow_nil ?_
      rintro w9 hb9
      have HB9 := Lib.hid (HB.out.trans (hb9.mono HB.out.size))
      clear hb9
      go_wp2_with fail
      go_roundw
      case rel => exact ⟨k + 1, by omega, by go_num, HB9⟩
      case measure => simp [intOf]; omega
    · go_wp2_with fail
      go_ret
      exact ⟨rfl, HB.out⟩
end Go.Proofs.Ythljjllcdocfiaa
