/- The walk of Valid. -/
import Derived.Test.YtpkgcklnknbbcaaM1
import Derived.Test.YtpkgcklnknbbcaaGr
import Derived.StillTailTactics
import Derived.Deep.RegionHeld3
set_option linter.unusedVariables false
set_option linter.unusedSimpArgs false
set_option linter.unnecessarySimpa false
namespace Go.Proofs.Ytpkgcklnknbbcaa
open Go.RowKit

/-- a state in memory -/
def At4 (w : World) (b : Nat) (p s v : Int) (d : Bool) : Prop :=
  w.cell? ⟨b, 0, none⟩ = some (.int .i64 p) ∧ w.cell? ⟨b, 1, none⟩ = some (.int .i64 s) ∧ w.cell? ⟨b, 2, none⟩ = some (.int .i64 v) ∧ w.cell? ⟨b, 3, none⟩ = some (.bool d)

theorem at4_new (w : World) (p s v : Int) (d : Bool) : At4 (w.alloc (.cells #[.int .i64 p, .int .i64 s, .int .i64 v, .bool d] 23)) w.heap.size p s v d := by
  refine ⟨?_, ?_, ?_, ?_⟩ <;> simp [World.cell?_alloc_new]
theorem At4.below {w w' : World} {b B : Nat} {p s v : Int} {d : Bool} (h : At4 w b p s v d) (hb : Below B w w') (hB : b < B) : At4 w' b p s v d := by
  obtain ⟨h0, h1, h2, h3⟩ := h
  exact ⟨(hb.cell (p := ⟨b, 0, none⟩) hB).trans h0, (hb.cell (p := ⟨b, 1, none⟩) hB).trans h1, (hb.cell (p := ⟨b, 2, none⟩) hB).trans h2, (hb.cell (p := ⟨b, 3, none⟩) hB).trans h3⟩

theorem undrew {B : Nat} {w w' : World} (h : Below B w.drew w') : Below B w w' := ⟨h.os, h.tape, h.output, h.size, h.block⟩

/-- the worlds above W0 in which the state lies -/
def Up4 (W0 : World) (b : Nat) (p s v : Int) (d : Bool) (w : World) : Prop := Below W0.heap.size W0 w ∧ At4 w b p s v d
theorem Up4.call {W0 w w' : World} {b : Nat} {p s v : Int} {d : Bool} (h : Up4 W0 b p s v d w) (hb : b < W0.heap.size) (hw : Below w.heap.size w w') : Up4 W0 b p s v d w' :=
  ⟨h.1.trans (hw.mono h.1.size), h.2.below hw (Nat.lt_of_lt_of_le hb h.1.size)⟩
theorem Up4.facts {W0 : World} {b : Nat} {p s v : Int} {d : Bool} (w : World) (h : Up4 W0 b p s v d w) :
  w.cell? ⟨b, 0, none⟩ = some (.int .i64 p) ∧ w.cell? ⟨b, 1, none⟩ = some (.int .i64 s) ∧ w.cell? ⟨b, 2, none⟩ = some (.int .i64 v) ∧ w.cell? ⟨b, 3, none⟩ = some (.bool d) := h.2




theorem andNot_zero_iff (k : Nat) (hk : k ≤ 62) (v : Int) (h1 : -9223372036854775808 ≤ v) (h2 : v ≤ 9223372036854775807) :
    bits .andNot .i64 v (2 ^ k - 1) = 0 ↔ (0 ≤ v ∧ v ≤ 2 ^ k - 1) := by
  have hpos : 0 < 2 ^ k := Nat.two_pow_pos k
  have hpk : (2:Nat) ^ k ≤ 2 ^ 62 := Nat.pow_le_pow_right (by decide) hk
  have hc : ((2 : Int) ^ k - 1) = ((2 ^ k - 1 : Nat) : Int) := by rw [Int.natCast_sub hpos]; simp
  have hM : ∀ i, i < 64 → (BitVec.ofNat 64 (2 ^ k - 1)).getLsbD i = decide (i < k) := by
    intro i hi
    rw [BitVec.getLsbD_ofNat, Nat.testBit_two_pow_sub_one]
    simp [hi]
  have key : ∀ a : BitVec 64, (a &&& ~~~(BitVec.ofNat 64 (2 ^ k - 1))) = 0#64 ↔ a.toNat < 2 ^ k := by
    intro a
    constructor
    · intro h
      apply Nat.lt_pow_two_of_testBit
      intro i hi
      rcases Nat.lt_or_ge i 64 with hi64 | hi64
      · have h3 := congrArg (fun z => z.getLsbD i) h
        have hf : ¬ i < k := by omega
        simp only [BitVec.getLsbD_and, BitVec.getLsbD_not, hM i hi64, hf, hi64, decide_true, decide_false, Bool.not_false, Bool.and_true, BitVec.getLsbD_zero] at h3
        exact h3
      · exact Nat.testBit_lt_two_pow (Nat.lt_of_lt_of_le a.isLt (Nat.pow_le_pow_right (by decide) hi64))
    · intro h
      apply BitVec.eq_of_getLsbD_eq
      intro i hi
      simp only [BitVec.getLsbD_and, BitVec.getLsbD_not, hM i hi, hi, decide_true, Bool.true_and, BitVec.getLsbD_zero]
      rcases Nat.lt_or_ge i k with h3 | h3
      · simp [h3]
      · have h4 : a.getLsbD i = false := Nat.testBit_lt_two_pow (Nat.lt_of_lt_of_le h (Nat.pow_le_pow_right (by decide) h3))
        rw [h4]; rfl
  rw [hc]
  have hb : bits .andNot .i64 v ((2 ^ k - 1 : Nat) : Int) = IntKind.i64.wrap ((BitVec.ofInt 64 v &&& ~~~(BitVec.ofNat 64 (2 ^ k - 1))).toNat) := by
    simp only [bits, BitVec.ofInt_natCast, IntKind.bits]; rfl
  rw [hb]
  have hv : (BitVec.ofInt 64 v).toNat = (v % 18446744073709551616).toNat := by simp [BitVec.toNat_ofInt]
  have hk2 := key (BitVec.ofInt 64 v)
  rw [hv] at hk2
  have hz : IntKind.i64.wrap (((BitVec.ofInt 64 v &&& ~~~(BitVec.ofNat 64 (2 ^ k - 1))).toNat : Nat) : Int) = 0 ↔ (BitVec.ofInt 64 v &&& ~~~(BitVec.ofNat 64 (2 ^ k - 1))) = 0#64 := by
    generalize BitVec.ofInt 64 v &&& ~~~(BitVec.ofNat 64 (2 ^ k - 1)) = z
    rw [IntKind.wrap_i64]
    constructor
    · intro h
      apply BitVec.eq_of_toNat_eq
      have := z.isLt
      simp
      omega
    · intro h; subst h; simp
  rw [hz, hk2]
  omega

def validB (p s v : Int) : Bool :=
  decide (1 ≤ s) && decide (s ≤ 4) && decide (0 ≤ v) && decide (v ≤ allOf s) &&
    (if p = 1 then decide (v ≠ allOf s) else if p = 2 ∨ p = 3 ∨ p = 4 then decide (v = allOf s) else decide (p = 5))

theorem andNot_all (s v : Int) (hs : 1 ≤ s) (hs4 : s ≤ 4) (h1 : -9223372036854775808 ≤ v) (h2 : v ≤ 9223372036854775807) :
    (bits .andNot .i64 v (allOf s) != 0) = !(decide (0 ≤ v) && decide (v ≤ allOf s)) := by
  have h := andNot_zero_iff s.toNat (by omega) v h1 h2
  have e : allOf s = 2 ^ s.toNat - 1 := rfl
  rw [← e] at h
  by_cases hz : bits .andNot .i64 v (allOf s) = 0
  · have := h.1 hz
    simp [hz, this.1, this.2]
  · have hn : ¬ (0 ≤ v ∧ v ≤ allOf s) := fun q => hz (h.2 q)
    have : (decide (0 ≤ v) && decide (v ≤ allOf s)) = false := by
      cases hq : (decide (0 ≤ v) && decide (v ≤ allOf s)) with
      | false => rfl
      | true => simp at hq; exact absurd hq hn
    simp [hz, this]

def RetB (b : Bool) (w : World) (e : Ending) (w' : World) : Prop := e = .returned (.bool b) ∧ Below w.heap.size w w'

theorem RetB.to {b b' : Bool} {w w' : World} {e : Ending} (h : b = b') (he : e = .returned (.bool b)) (hb : Below w.heap.size w w') : RetB b' w e w' := by
  subst h; exact ⟨he, hb⟩

theorem up_start {W0 : World} {b : Nat} {p s v : Int} {d : Bool} (h : At4 W0 b p s v d) : Up4 W0 b p s v d { W0 with drawn := W0.drawn + 1 } := ⟨(Below.refl _ _).drew, h⟩

set_option maxHeartbeats 1000000 in
theorem valid_out (p s v : Int) (d : Bool) (w : World) (hs : s < 1 ∨ 4 < s) :
    Calls Try.prog 14 #[.agg #[.int .i64 p, .int .i64 s, .int .i64 v, .bool d]] w (RetB (validB p s v) w) := by
  have hval := Lib.hid (show false = validB p s v by unfold validB; rcases hs with h | h <;> simp <;> omega)
  have hbw := below_of_allocs (w := w) (.cells #[.int .i64 p, .int .i64 s, .int .i64 v, .bool d] 23)
  have hsz : w.heap.size < (w.alloc (.cells #[.int .i64 p, .int .i64 s, .int .i64 v, .bool d] 23)).heap.size := by simp
  have ha := at4_new w p s v d
  by_cases hd : s < 1
  all_goals
    first
      | (have hd' : decide (s < 1) = true := by simpa using hd)
      | (have hd' : decide (s < 1) = false := by simpa using hd
         have hd4 : decide (4 < s) = true := by simp; omega)
    clear hd hs
    go_enter Try.func14, Try.ntmps14
    go_wp2_with fail
    generalize w.alloc (.cells #[.int .i64 p, .int .i64 s, .int .i64 v, .bool d] 23) = W0 at *
    have HB := Lib.hid hbw
    clear hbw
    refine wp_region_grow (Up4 W0 w.heap.size p s v d) (by kernel_rfl) (by kernel_rfl) ⟨(Below.refl _ _).drew, ha⟩ ?_
    have HA := Lib.hid ha
    clear ha
    repeat first
             | (apply gRow_plain
                · exact rfl
                · intro wg hg
                  have hc := Up4.facts wg hg
                  go_simp
                  first
                    | exact rfl
                    | exact ⟨hg, rfl⟩
                    | ((fail))
                intro K hK
                go_simp
                refine hK _ ?_
                clear hK K)
             | (apply gRow_step
                · go_simp; done
                · intro wg hg
                  have hc := Up4.facts wg hg
                  go_simp
                  first
                    | exact rfl
                    | exact ⟨hg, rfl⟩
                    | ((fail))
                intro K hK
                go_simp
                refine hK _ ?_
                clear hK K)
             | (apply gRow_not
                · go_simp; done
                intro K hK
                go_simp
                refine hK _ ?_
                clear hK K)
    refine gRow_nil ?_
    rintro W1 ⟨HB1, hA1, hA2, hA3, hA4⟩
    clear HA
    go_wp2_with fail
    go_ret
    exact RetB.to hval.out rfl (HB.out.trans (HB1.mono (Nat.le_of_lt hsz)))

set_option maxHeartbeats 1000000 in
theorem valid_in (p s v : Int) (d : Bool) (w : World) (h1 : 1 ≤ s) (h4 : s ≤ 4) (hv1 : -9223372036854775808 ≤ v) (hv2 : v ≤ 9223372036854775807) :
    Calls Try.prog 14 #[.agg #[.int .i64 p, .int .i64 s, .int .i64 v, .bool d]] w (RetB (validB p s v) w) := by
  have hand := andNot_all s v h1 h4 hv1 hv2
  generalize hq : (decide (0 ≤ v) && decide (v ≤ allOf s)) = q at hand
  have hval : validB p s v = (q && (if p = 1 then decide (v ≠ allOf s) else if p = 2 ∨ p = 3 ∨ p = 4 then decide (v = allOf s) else decide (p = 5))) := by
    unfold validB; rw [← hq]; simp [h1, h4]
  have HV := Lib.hid hval
  have hd : decide (s < 1) = false := by simpa using h1
  have hd4 : decide (4 < s) = false := by simpa using h4
  clear hval hq
  have hbw := below_of_allocs (w := w) (.cells #[.int .i64 p, .int .i64 s, .int .i64 v, .bool d] 23)
  have hsz : w.heap.size < (w.alloc (.cells #[.int .i64 p, .int .i64 s, .int .i64 v, .bool d] 23)).heap.size := by simp
  have ha := at4_new w p s v d
  cases q
  all_goals
    go_enter Try.func14, Try.ntmps14
    go_wp2_with fail
    generalize w.alloc (.cells #[.int .i64 p, .int .i64 s, .int .i64 v, .bool d] 23) = W0 at *
    have HB := Lib.hid hbw
    clear hbw
    refine wp_region_grow (Up4 W0 w.heap.size p s v d) (by kernel_rfl) (by kernel_rfl) ⟨(Below.refl _ _).drew, ha⟩ ?_
    have HA := Lib.hid ha
    clear ha
    repeat first
             | (apply gRow_plain
                · exact rfl
                · intro wg hg
                  have hc := Up4.facts wg hg
                  go_simp
                  first
                    | exact rfl
                    | exact ⟨hg, rfl⟩
                    | ((refine (all_any _ _ _ _ _ h1 h4).mono ?_; rintro e w1 ⟨rfl, hb1⟩; exact ⟨rfl, hg.call hsz hb1⟩))
                intro K hK
                go_simp
                refine hK _ ?_
                clear hK K)
             | (apply gRow_step
                · go_simp; done
                · intro wg hg
                  have hc := Up4.facts wg hg
                  go_simp
                  first
                    | exact rfl
                    | exact ⟨hg, rfl⟩
                    | ((refine (all_any _ _ _ _ _ h1 h4).mono ?_; rintro e w1 ⟨rfl, hb1⟩; exact ⟨rfl, hg.call hsz hb1⟩))
                intro K hK
                go_simp
                refine hK _ ?_
                clear hK K)
             | (apply gRow_not
                · go_simp; done
                intro K hK
                go_simp
                refine hK _ ?_
                clear hK K)
    refine gRow_nil ?_
    rintro W1 ⟨HB1, hA1⟩
    have hB1 := Lib.hid (HB.out.trans (HB1.mono (Nat.le_of_lt hsz)))
    have hsz1 := Nat.lt_of_lt_of_le hsz HB1.size
    have HA1 := Lib.hid hA1
    obtain ⟨hA1, hA2, hA3, hA4⟩ := hA1
    clear HA HB1 HB
    go_wp2_with fail
    all_goals
      first
        | (go_ret
           refine RetB.to ?_ rfl hB1.out
           rw [HV.out]
           simp_all <;> rfl)
        | (refine wp_region_grow (Up4 W1 w.heap.size p s v d) (by kernel_rfl) (by kernel_rfl) ⟨(Below.refl _ _).drew, HA1.out⟩ ?_
           clear hA1 hA2 hA3 hA4
           repeat first
                    | (apply gRow_plain
                       · exact rfl
                       · intro wg hg
                         have hc := Up4.facts wg hg
                         go_simp
                         first
                           | exact rfl
                           | exact ⟨hg, rfl⟩
                           | ((refine (all_any _ _ _ _ _ h1 h4).mono ?_; rintro e w1 ⟨rfl, hb1⟩; exact ⟨rfl, hg.call hsz1 hb1⟩))
                       intro K hK
                       go_simp
                       refine hK _ ?_
                       clear hK K)
                    | (apply gRow_step
                       · go_simp; done
                       · intro wg hg
                         have hc := Up4.facts wg hg
                         go_simp
                         first
                           | exact rfl
                           | exact ⟨hg, rfl⟩
                           | ((refine (all_any _ _ _ _ _ h1 h4).mono ?_; rintro e w1 ⟨rfl, hb1⟩; exact ⟨rfl, hg.call hsz1 hb1⟩))
                       intro K hK
                       go_simp
                       refine hK _ ?_
                       clear hK K)
                    | (apply gRow_not
                       · go_simp; done
                       intro K hK
                       go_simp
                       refine hK _ ?_
                       clear hK K)
           refine gRow_nil ?_
           rintro W2 ⟨HB2, hA2⟩
           clear hA2
           go_wp2_with fail
           go_ret
           refine RetB.to ?_ rfl (hB1.out.trans (HB2.mono (Nat.le_of_lt hsz1)))
           rw [HV.out]
           simp_all <;> rfl)

theorem valid_any (p s v : Int) (d : Bool) (w : World) (hv1 : -9223372036854775808 ≤ v) (hv2 : v ≤ 9223372036854775807) :
    Calls Try.prog 14 #[.agg #[.int .i64 p, .int .i64 s, .int .i64 v, .bool d]] w (RetB (validB p s v) w) := by
  by_cases h : 1 ≤ s ∧ s ≤ 4
  · exact valid_in p s v d w h.1 h.2 hv1 hv2
  · exact valid_out p s v d w (by omega)

end Go.Proofs.Ytpkgcklnknbbcaa
