/- The walk of the reference's Valid. -/
import Derived.Test.YtpkgcklnknbbcaaM2
set_option linter.unusedVariables false
set_option linter.unusedSimpArgs false
set_option linter.unnecessarySimpa false
namespace Go.Proofs.Ytpkgcklnknbbcaa
open Go.RowKit

set_option maxHeartbeats 1000000 in
theorem refValid_out (p s v : Int) (d : Bool) (w : World) (hs : s < 1 ∨ 4 < s) :
    Calls Try.prog 18 #[.agg #[.int .i64 p, .int .i64 s, .int .i64 v, .bool d]] w (RetB (validB p s v) w) := by
  have hval := Lib.hid (show false = validB p s v by unfold validB; rcases hs with h | h <;> simp <;> omega)
  have hbw := below_of_allocs (w := w) (.cells #[.int .i64 p, .int .i64 s, .int .i64 v, .bool d] 23)
  have hsz : w.heap.size < (w.alloc (.cells #[.int .i64 p, .int .i64 s, .int .i64 v, .bool d] 23)).heap.size := by simp
  have ha := at4_new w p s v d
  by_cases hd : s < 1
  all_goals
    first
      | (have hd' : decide (s < 1) = true := by simpa using hd)
      | (have hd' : decide (s < 1) = false := by simpa using hd
         have hd4 : decide (4 < s) = true := by simp; omega)
    clear hd hs
    go_enter Try.func18, Try.ntmps18
    go_wp2_with fail
    generalize w.alloc (.cells #[.int .i64 p, .int .i64 s, .int .i64 v, .bool d] 23) = W0 at *
    have HB := Lib.hid hbw
    clear hbw
    refine wp_region_grow (Up4 W0 w.heap.size p s v d) (by kernel_rfl) (by kernel_rfl) ⟨(Below.refl _ _).drew, ha⟩ ?_
    have HA := Lib.hid ha
    clear ha
    repeat first
             | (apply gRow_plain
                · exact rfl
                · intro wg hg
                  have hc := Up4.facts wg hg
                  go_simp
                  first
                    | exact rfl
                    | exact ⟨hg, rfl⟩
                    | ((fail))
                intro K hK
                go_simp
                refine hK _ ?_
                clear hK K)
             | (apply gRow_step
                · go_simp; done
                · intro wg hg
                  have hc := Up4.facts wg hg
                  go_simp
                  first
                    | exact rfl
                    | exact ⟨hg, rfl⟩
                    | ((fail))
                intro K hK
                go_simp
                refine hK _ ?_
                clear hK K)
             | (apply gRow_not
                · go_simp; done
                intro K hK
                go_simp
                refine hK _ ?_
                clear hK K)
    refine gRow_nil ?_
    rintro W1 ⟨HB1, hA1, hA2, hA3, hA4⟩
    clear HA
    go_wp2_with fail
    go_ret
    exact RetB.to hval.out rfl (HB.out.trans (HB1.mono (Nat.le_of_lt hsz)))

set_option maxHeartbeats 1000000 in
theorem refValid_in (p s v : Int) (d : Bool) (w : World) (h1 : 1 ≤ s) (h4 : s ≤ 4) :
    Calls Try.prog 18 #[.agg #[.int .i64 p, .int .i64 s, .int .i64 v, .bool d]] w (RetB (validB p s v) w) := by
  have hd : decide (s < 1) = false := by simpa using h1
  have hd4 : decide (4 < s) = false := by simpa using h4
  have hc : (v < 0) ∨ (0 ≤ v ∧ allOf s < v) ∨ (0 ≤ v ∧ v ≤ allOf s) := by omega
  rcases hc with hc | hc | hc
  all_goals
    first
      | (have hv := Lib.hid (show validB p s v = false by unfold validB; simp; omega)
         have hd5 : decide (v < 0) = true := by simpa using hc)
      | (have hv := Lib.hid (show validB p s v = false by unfold validB; simp; omega)
         have hd5 : decide (v < 0) = false := by simpa using hc.1
         have hd6 : decide (allOf s < v) = true := by simpa using hc.2)
      | (have hv := Lib.hid (show validB p s v = (if p = 1 then decide (v ≠ allOf s) else if p = 2 ∨ p = 3 ∨ p = 4 then decide (v = allOf s) else decide (p = 5)) by unfold validB; simp [h1, h4, hc.1, hc.2])
         have hd5 : decide (v < 0) = false := by simpa using hc.1
         have hd6 : decide (allOf s < v) = false := by simpa using hc.2)
    clear hc
    have hbw := below_of_allocs (w := w) (.cells #[.int .i64 p, .int .i64 s, .int .i64 v, .bool d] 23)
    have hsz : w.heap.size < (w.alloc (.cells #[.int .i64 p, .int .i64 s, .int .i64 v, .bool d] 23)).heap.size := by simp
    have ha := at4_new w p s v d
    go_enter Try.func18, Try.ntmps18
    go_wp2_with fail
    generalize w.alloc (.cells #[.int .i64 p, .int .i64 s, .int .i64 v, .bool d] 23) = W0 at *
    have HB := Lib.hid hbw
    clear hbw
    refine wp_region_grow (Up4 W0 w.heap.size p s v d) (by kernel_rfl) (by kernel_rfl) ⟨(Below.refl _ _).drew, ha⟩ ?_
    have HA := Lib.hid ha
    clear ha
    repeat first
             | (apply gRow_plain
                · exact rfl
                · intro wg hg
                  have hc := Up4.facts wg hg
                  go_simp
                  first
                    | exact rfl
                    | exact ⟨hg, rfl⟩
                    | ((refine (refAll_any _ _ h1 h4).mono ?_; rintro e w1 ⟨rfl, rfl⟩; exact ⟨rfl, hg⟩))
                intro K hK
                go_simp
                refine hK _ ?_
                clear hK K)
             | (apply gRow_step
                · go_simp; done
                · intro wg hg
                  have hc := Up4.facts wg hg
                  go_simp
                  first
                    | exact rfl
                    | exact ⟨hg, rfl⟩
                    | ((refine (refAll_any _ _ h1 h4).mono ?_; rintro e w1 ⟨rfl, rfl⟩; exact ⟨rfl, hg⟩))
                intro K hK
                go_simp
                refine hK _ ?_
                clear hK K)
             | (apply gRow_not
                · go_simp; done
                intro K hK
                go_simp
                refine hK _ ?_
                clear hK K)
    refine gRow_nil ?_
    rintro W1 ⟨HB1, hA1⟩
    have hB1 := Lib.hid (HB.out.trans (HB1.mono (Nat.le_of_lt hsz)))
    have hsz1 := Nat.lt_of_lt_of_le hsz HB1.size
    have HA1 := Lib.hid hA1
    obtain ⟨hA1, hA2, hA3, hA4⟩ := hA1
    clear HA HB1 HB
    go_wp2_with fail
    all_goals
      first
        | (go_ret
           refine RetB.to ?_ rfl hB1.out
           rw [hv.out]
           done)
        | (go_ret
           refine RetB.to ?_ rfl hB1.out
           rw [hv.out]
           simp_all <;> rfl)
        | (refine wp_region_grow (Up4 W1 w.heap.size p s v d) (by kernel_rfl) (by kernel_rfl) ⟨(Below.refl _ _).drew, HA1.out⟩ ?_
           clear hA1 hA2 hA3 hA4
           repeat first
                    | (apply gRow_plain
                       · exact rfl
                       · intro wg hg
                         have hc := Up4.facts wg hg
                         go_simp
                         first
                           | exact rfl
                           | exact ⟨hg, rfl⟩
                           | ((refine (refAll_any _ _ h1 h4).mono ?_; rintro e w1 ⟨rfl, rfl⟩; exact ⟨rfl, hg⟩))
                       intro K hK
                       go_simp
                       refine hK _ ?_
                       clear hK K)
                    | (apply gRow_step
                       · go_simp; done
                       · intro wg hg
                         have hc := Up4.facts wg hg
                         go_simp
                         first
                           | exact rfl
                           | exact ⟨hg, rfl⟩
                           | ((refine (refAll_any _ _ h1 h4).mono ?_; rintro e w1 ⟨rfl, rfl⟩; exact ⟨rfl, hg⟩))
                       intro K hK
                       go_simp
                       refine hK _ ?_
                       clear hK K)
                    | (apply gRow_not
                       · go_simp; done
                       intro K hK
                       go_simp
                       refine hK _ ?_
                       clear hK K)
           refine gRow_nil ?_
           rintro W2 ⟨HB2, hA2⟩
           clear hA2
           go_wp2_with fail
           go_ret
           refine RetB.to ?_ rfl (hB1.out.trans (HB2.mono (Nat.le_of_lt hsz1)))
           rw [hv.out]
           simp_all <;> rfl)

theorem refValid_any (p s v : Int) (d : Bool) (w : World) :
    Calls Try.prog 18 #[.agg #[.int .i64 p, .int .i64 s, .int .i64 v, .bool d]] w (RetB (validB p s v) w) := by
  by_cases h : 1 ≤ s ∧ s ≤ 4
  · exact refValid_in p s v d w h.1 h.2
  · exact refValid_out p s v d w (by omega)

end Go.Proofs.Ytpkgcklnknbbcaa
