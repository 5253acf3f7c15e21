/- Valid, order and Before of a job of any risk, and the reference's Valid. -/
import Derived.Test.YtgnmolleaengaaaGreatVa
import Derived.Test.YtgnmolleaengaaaGreatS5
set_option linter.unusedVariables false
set_option linter.unusedSimpArgs false
set_option linter.unnecessarySimpa false
namespace Go.Proofs.YtgnmolleaengaaaGreat
namespace V
open Go Go.RowKit

theorem clen_zero : ∀ (l : List Nat), (∀ x ∈ l, x = 0) → clen l = 0
  | [], _ => rfl
  | x :: l, h => by simp [clen, clen_zero l fun y hy => h y (by simp [hy]), h x (by simp)]
theorem zero_clen : ∀ (l : List Nat), clen l = 0 → ∀ x ∈ l, x = 0
  | [], _ => by simp
  | x :: l, h => by
    have h2 : clen l = 0 := by
      simp only [clen] at h
      split at h
      · assumption
      · omega
    simp only [clen, h2, if_true] at h
    intro y hy
    rcases List.mem_cons.1 hy with rfl | hy
    · by_cases e : y = 0
      · exact e
      · rw [if_neg e] at h; omega
    · exact zero_clen l h2 y hy
theorem trim_zero {l : List Nat} (h : clen l = 0) : trim l = [] := by unfold trim; rw [h]; rfl
theorem mulL_nil (D : List Nat) : mulL [] D = [] := by
  unfold mulL mul0
  rw [show trim [] = [] from rfl]
  exact trim_zero (clen_zero _ fun x hx => (List.mem_replicate.1 hx).2)
theorem outr_one : ∀ (a : List Nat) (i : Nat) (o : List Nat), Lims a → o.length = i + a.length + 1 → (∀ j, i ≤ j → o.getD j 0 = 0) → outr [1] a i o = o.take i ++ a ++ [0]
  | [], i, o, _, hl, h0 => by
    simp only [outr, List.append_nil]
    apply List.ext_getElem?
    intro j
    by_cases hj : j < i
    · rw [List.getElem?_append_left (by simp; omega), List.getElem?_take, if_pos hj]
    · by_cases hj2 : j = i
      · subst hj2
        have := h0 j (Nat.le_refl _)
        rw [List.getD_eq_getElem?_getD] at this
        have hlt : j < o.length := by simp at hl; omega
        rw [List.getElem?_eq_getElem hlt] at this ⊢
        rw [List.getElem?_append_right (by rw [List.length_take]; exact Nat.min_le_left _ _), List.length_take, Nat.min_eq_left (by omega), Nat.sub_self]
        simp at this
        simp [this]
      · rw [List.getElem?_eq_none (by simp at hl; omega), List.getElem?_eq_none (by simp at hl ⊢; omega)]
  | x :: a, i, o, hL, hl, h0 => by
    have hx := hL x (by simp)
    simp only [outr, inn, h0 i (Nat.le_refl _), Nat.add_zero, Nat.zero_add, Nat.mul_one, List.length_singleton]
    rw [Nat.div_eq_of_lt hx, Nat.mod_eq_of_lt hx, show 0 % 4294967296 = 0 from rfl]
    have hl2 : o.length = i + (a.length + 1) + 1 := by simpa using hl
    rw [outr_one a (i + 1) ((o.set i x).set (i + 1) 0) (fun y hy => hL y (by simp [hy])) (by simp; omega) (fun j hj => by
      rw [List.getD_eq_getElem?_getD, List.getElem?_set]
      split
      · split <;> rfl
      · rw [List.getElem?_set_ne (by omega), ← List.getD_eq_getElem?_getD]
        exact h0 j (by omega))]
    have e : ((o.set i x).set (i + 1) 0).take (i + 1) = o.take i ++ [x] := by
      apply List.ext_getElem?
      intro j
      rw [List.getElem?_take]
      by_cases hj : j < i
      · rw [if_pos (by omega), List.getElem?_set_ne (by omega), List.getElem?_set_ne (by omega), List.getElem?_append_left (by simp; omega), List.getElem?_take, if_pos hj]
      · by_cases hj2 : j = i
        · subst hj2
          rw [if_pos (by omega), List.getElem?_set_ne (by omega), List.getElem?_set_self (by omega), List.getElem?_append_right (by rw [List.length_take]; exact Nat.min_le_left _ _), List.length_take, Nat.min_eq_left (by omega), Nat.sub_self]
          rfl
        · rw [if_neg (by omega), List.getElem?_eq_none (by simp; omega)]
    rw [e]
    simp
theorem mul0_one {a : List Nat} (hL : Lims a) : mul0 a [1] = a ++ [0] := by
  unfold mul0
  rw [outr_one a 0 _ hL (by simp) (fun j _ => by rw [List.getD_eq_getElem?_getD, List.getElem?_replicate]; split <;> rfl)]
  simp
theorem mulL_one_len {N : List Nat} (hL : Lims N) : decide (0 < (mulL N [1]).length) = decide (0 < clen N) := by
  unfold mulL
  rw [show trim [1] = [1] from rfl, mul0_one hL.trim, trim_len]
  by_cases h : clen N = 0
  · rw [h, trim_zero h]; rfl
  · have hp : 0 < clen (trim N ++ [0]) := by
      refine Nat.pos_of_ne_zero fun e => ?_
      have hz := zero_clen _ e
      obtain ⟨x, hx, hx0⟩ := clen_top N h
      refine hx0 (hz x ?_)
      refine List.mem_append.2 (.inl ?_)
      unfold trim
      refine List.mem_of_getElem? (i := clen N - 1) ?_
      rw [List.getElem?_take, if_pos (by omega)]
      exact hx
    rw [decide_eq_true hp, decide_eq_true (Nat.pos_of_ne_zero h)]
theorem cmpN_nil (A : List Nat) : 0 ≤ cmpN A [] := by
  unfold cmpN
  rw [show clen [] = 0 from rfl, if_neg (Nat.not_lt_zero _)]
  split
  · omega
  · rw [show clen A = 0 by omega]; exact Int.le_refl _

/-- the numbers of a job are in their ranges -/
def okI (j : Jb) : Prop := (0 ≤ j.vol ∧ j.vol < 12) ∧ (0 ≤ j.frag ∧ j.frag < 8) ∧ (1 ≤ j.cls ∧ j.cls ≤ 3) ∧ (0 ≤ j.rem ∧ j.rem ≤ 8)
instance (j : Jb) : Decidable (okI j) := by unfold okI; infer_instance
/-- the risk is valid and not below zero -/
def okR (j : Jb) : Bool := validQ j.n j.d && !(j.neg && decide (0 < clen j.n))
theorem ordQ_sign {ng : Bool} {N D : List Nat} : decide (0 ≤ ordQ ng false N D [] [1]) = !(ng && decide (0 < clen N)) := by
  unfold ordQ
  rw [mulL_nil]
  have h := cmpN_nil (mulL N [1])
  by_cases h0 : clen N = 0
  · simp [h0, h]
  · have h1 : 0 < clen N := Nat.pos_of_ne_zero h0
    cases ng <;> simp [h0, h1, h]
theorem rordQ_sign {ng : Bool} {N D : List Nat} (hL : Lims N) : decide (0 ≤ rordQ ng false (mulL N [1]) (mulL [] D)) = !(ng && decide (0 < clen N)) := by
  unfold rordQ
  rw [mulL_nil, mulL_one_len hL]
  have h := cmpN_nil (mulL N [1])
  by_cases h0 : clen N = 0
  · simp [h0, h]
  · have h1 : 0 < clen N := Nat.pos_of_ne_zero h0
    cases ng <;> simp [h1, h]
theorem ordQ_self {ng : Bool} {N D : List Nat} (h : (ng && decide (0 < clen N)) = false) : ordQ ng ng N D N D = 0 := by
  unfold ordQ
  rw [cmpN_self]
  by_cases h0 : clen N = 0
  · simp [h0]
  · have h1 : 0 < clen N := Nat.pos_of_ne_zero h0
    cases ng
    · simp
    · simp [h1] at h

theorem fcmp_bad {w : World} {n1 n2 : Bool} {a1 b1 a2 b2 : Option Addr} {m1 c1 k1 d1 m2 c2 k2 d2 : Nat} {N1 D1 : List Nat}
    (h1 : Rd eU w (.slice a1 m1 c1) N1) (h2 : Rd eU w (.slice b1 k1 d1) D1) (l1 : Lims N1) (l2 : Lims D1) (hn : clen N1 ≤ 5000) (hd : clen D1 ≤ 5000) (v1 : validQ N1 D1 = false) :
    Calls Tryz.prog 32 #[fv n1 (.slice a1 m1 c1) (.slice b1 k1 d1), fv n2 (.slice a2 m2 c2) (.slice b2 k2 d2)] w fun e w' => e = .returned (.tuple #[.int .i64 0, .int .i64 1]) ∧ Below w.heap.size w w' := by
  have hM := ((Mm.start (S := []) w (by simp)).push w.heap.size #[.bool n1, .slice a1 m1 c1, .slice b1 k1 d1] 27 rfl).push (w.heap.size + 1) #[.bool n2, .slice a2 m2 c2, .slice b2 k2 d2] 27 (by simp)
  have HM := Lib.hid hM
  have hB0 : Below w.heap.size w ((w.alloc (.cells #[.bool n1, .slice a1 m1 c1, .slice b1 k1 d1] 27)).alloc (.cells #[.bool n2, .slice a2 m2 c2, .slice b2 k2 d2] 27)) := hM.only.below (by simp) (Nat.le_refl _)
  have HB0 := Lib.hid hB0
  have KF := Lib.hid (fvalid_as (neg := n1) (h1.below hB0 (Nat.le_refl _)) (h2.below hB0 (Nat.le_refl _)) l1 l2 hn hd v1)
  clear h1 h2 l1 l2 hn hd v1 hM hB0
  go_enter Tryz.func32, Tryz.ntmps32
  go_wp2_with (go_at_call 54; (with_reducible refine KF.out.mono ?_); rintro e w1 ⟨rfl, hb⟩; have HB1 := Lib.hid (HB0.out.trans (hb.mono HB0.out.size)); clear hb)
  go_ret2
  exact ⟨rfl, HB1.out⟩

theorem ln {l : List Nat} (h : l.length ≤ 200) : clen l ≤ 5000 := by have := clen_le l; omega

set_option maxRecDepth 20000 in
set_option maxHeartbeats 4000000 in
theorem valid_gen {w : World} {j : Jb} {an ad : Option Addr} {anc adc : Nat} (oj : OkJ j) (l1 : Lims j.n) (l2 : Lims j.d) (h1 : Rd eU w (.slice an j.n.length anc) j.n) (h2 : Rd eU w (.slice ad j.d.length adc) j.d) {r : Bool} (hr : (decide (okI j) && okR j) = r) :
    Calls Tryz.prog 15 #[jv j (.slice an j.n.length anc) (.slice ad j.d.length adc)] w fun e w' => e = .returned (.bool r) ∧ Below w.heap.size w w' := by
  obtain ⟨a1, a2, a3, a4, ng, n1, d1⟩ := j
  obtain ⟨o1, o2⟩ := oj
  simp only at l1 l2 h1 h2 o1 o2
  have HL1 := Lib.hid l1
  have HL2 := Lib.hid l2
  have HL3 := Lib.hid (show Lims [] from fun x hx => by cases hx)
  have HL4 := Lib.hid (show Lims [1] from fun x hx => by rw [List.mem_singleton.1 hx]; omega)
  have HV2 := Lib.hid (show validQ [] [1] = true from validJ (n := 0) (d := 1) (by omega))
  have HK1 := Lib.hid (ln o1)
  have HK2 := Lib.hid (ln o2)
  have hM := (Mm.start (S := []) w (by simp)).push w.heap.size (jc ⟨a1, a2, a3, a4, ng, n1, d1⟩ (.slice an n1.length anc) (.slice ad d1.length adc)) 29 rfl
  have HM := Lib.hid hM
  have hB0 := hM.only.below (B := w.heap.size) (by simp) (Nat.le_refl _)
  have HB0 := Lib.hid hB0
  have HN := Lib.hid (h1.below hB0 (Nat.le_refl _))
  have HD := Lib.hid (h2.below hB0 (Nat.le_refl _))
  have HSG := Lib.hid (@ordQ_sign ng n1 d1)
  clear h1 h2 hM hB0 l1 l2 o1 o2
  obtain ⟨s0, s1, s2, s3, s4, s5, s6, -⟩ := HM.out.lay7 0 rfl
  by_cases c0 : a1 < 0
  · have b0 : decide (a1 < 0) = true := by simpa using c0
    obtain rfl : false = r := by rw [← hr, decide_eq_false (show ¬ okI ⟨a1, a2, a3, a4, ng, n1, d1⟩ by unfold okI; simp only; omega)]; rfl
    clear hr
    go_enter Tryz.func15, Tryz.ntmps15
    go_wp2_with fail
    go_ret
    exact ⟨rfl, HB0.out⟩
  have b0 : decide (a1 < 0) = false := by simp; omega
  by_cases c1 : 12 ≤ a1
  · have b1 : decide (12 ≤ a1) = true := by simpa using c1
    obtain rfl : false = r := by rw [← hr, decide_eq_false (show ¬ okI ⟨a1, a2, a3, a4, ng, n1, d1⟩ by unfold okI; simp only; omega)]; rfl
    clear hr
    go_enter Tryz.func15, Tryz.ntmps15
    go_wp2_with fail
    go_ret
    exact ⟨rfl, HB0.out⟩
  have b1 : decide (12 ≤ a1) = false := by simp; omega
  by_cases c2 : a2 < 0
  · have b2 : decide (a2 < 0) = true := by simpa using c2
    obtain rfl : false = r := by rw [← hr, decide_eq_false (show ¬ okI ⟨a1, a2, a3, a4, ng, n1, d1⟩ by unfold okI; simp only; omega)]; rfl
    clear hr
    go_enter Tryz.func15, Tryz.ntmps15
    go_wp2_with fail
    go_ret
    exact ⟨rfl, HB0.out⟩
  have b2 : decide (a2 < 0) = false := by simp; omega
  by_cases c3 : 8 ≤ a2
  · have b3 : decide (8 ≤ a2) = true := by simpa using c3
    obtain rfl : false = r := by rw [← hr, decide_eq_false (show ¬ okI ⟨a1, a2, a3, a4, ng, n1, d1⟩ by unfold okI; simp only; omega)]; rfl
    clear hr
    go_enter Tryz.func15, Tryz.ntmps15
    go_wp2_with fail
    go_ret
    exact ⟨rfl, HB0.out⟩
  have b3 : decide (8 ≤ a2) = false := by simp; omega
  by_cases c4 : a3 < 1
  · have b4 : decide (a3 < 1) = true := by simpa using c4
    obtain rfl : false = r := by rw [← hr, decide_eq_false (show ¬ okI ⟨a1, a2, a3, a4, ng, n1, d1⟩ by unfold okI; simp only; omega)]; rfl
    clear hr
    go_enter Tryz.func15, Tryz.ntmps15
    go_wp2_with fail
    go_ret
    exact ⟨rfl, HB0.out⟩
  have b4 : decide (a3 < 1) = false := by simp; omega
  by_cases c5 : 3 < a3
  · have b5 : decide (3 < a3) = true := by simpa using c5
    obtain rfl : false = r := by rw [← hr, decide_eq_false (show ¬ okI ⟨a1, a2, a3, a4, ng, n1, d1⟩ by unfold okI; simp only; omega)]; rfl
    clear hr
    go_enter Tryz.func15, Tryz.ntmps15
    go_wp2_with fail
    go_ret
    exact ⟨rfl, HB0.out⟩
  have b5 : decide (3 < a3) = false := by simp; omega
  by_cases c6 : a4 < 0
  · have b6 : decide (a4 < 0) = true := by simpa using c6
    obtain rfl : false = r := by rw [← hr, decide_eq_false (show ¬ okI ⟨a1, a2, a3, a4, ng, n1, d1⟩ by unfold okI; simp only; omega)]; rfl
    clear hr
    go_enter Tryz.func15, Tryz.ntmps15
    go_wp2_with fail
    go_ret
    exact ⟨rfl, HB0.out⟩
  have b6 : decide (a4 < 0) = false := by simp; omega
  by_cases c7 : 8 < a4
  · have b7 : decide (8 < a4) = true := by simpa using c7
    obtain rfl : false = r := by rw [← hr, decide_eq_false (show ¬ okI ⟨a1, a2, a3, a4, ng, n1, d1⟩ by unfold okI; simp only; omega)]; rfl
    clear hr
    go_enter Tryz.func15, Tryz.ntmps15
    go_wp2_with fail
    go_ret
    exact ⟨rfl, HB0.out⟩
  have b7 : decide (8 < a4) = false := by simp; omega
  have hri : decide (okI ⟨a1, a2, a3, a4, ng, n1, d1⟩) = true := decide_eq_true (by unfold okI; simp only; omega)
  rw [hri, Bool.true_and] at hr
  clear hri c0 c1 c2 c3 c4 c5 c6 c7
  unfold okR at hr
  simp only at hr
  cases hv : validQ n1 d1 with
  | false =>
    rw [hv, Bool.false_and] at hr
    subst hr
    have HV := Lib.hid hv
    clear hv
    go_enter Tryz.func15, Tryz.ntmps15
    go_wp2_with (first
      | (go_at_call 31; (with_reducible refine (fmake_zero _).mono ?_); rintro e w1 ⟨p1, q1, p2, q2, rfl, k1, k2, hb⟩; have HM1 := Lib.hid ((HM.out.call hb).push w1.heap.size #[.bool false, .slice p1 0 q1, .slice p2 1 q2] 27 rfl); have HB1 := Lib.hid ((HB0.out.trans (hb.mono HB0.out.size)).alloc ((HB0.out.trans (hb.mono HB0.out.size)).size) (.cells #[.bool false, .slice p1 0 q1, .slice p2 1 q2] 27)); have HZ1 := Lib.hid ((k1.keep (below_alloc _ (.cells #[.bool false, .slice p1 0 q1, .slice p2 1 q2] 27))).rd); have HZ2 := Lib.hid ((k2.keep (below_alloc _ (.cells #[.bool false, .slice p1 0 q1, .slice p2 1 q2] 27))).rd); have HN2 := Lib.hid ((HN.out.keep hb).keep (below_alloc _ (.cells #[.bool false, .slice p1 0 q1, .slice p2 1 q2] 27))); have HD2 := Lib.hid ((HD.out.keep hb).keep (below_alloc _ (.cells #[.bool false, .slice p1 0 q1, .slice p2 1 q2] 27))); clear s0 s1 s2 s3 s4 s5 s6; obtain ⟨t0, t1, t2, -⟩ := HM1.out.lay3 0 rfl; obtain ⟨s0, s1, s2, s3, s4, s5, s6, -⟩ := HM1.out.lay7 1 rfl; clear k1 k2 hb)
      | (go_at_call 32; (with_reducible refine (fcmp_bad HN2.out HD2.out HL1.out HL2.out HK1.out HK2.out HV.out).mono ?_); rintro e w2 ⟨rfl, hb⟩; have HB2 := Lib.hid (HB1.out.trans (hb.mono HB1.out.size)); clear hb))
    go_ret
    exact ⟨rfl, HB2.out⟩
  | true =>
    rw [hv, Bool.true_and, ← HSG.out] at hr
    have HV := Lib.hid hv
    obtain ⟨c, hc⟩ : ∃ c, ordQ ng false n1 d1 [] [1] = c := ⟨_, rfl⟩
    have HC := Lib.hid hc
    rw [hc] at hr
    clear hv hc HSG
    go_enter Tryz.func15, Tryz.ntmps15
    go_wp2_with (first
      | (go_at_call 31; (with_reducible refine (fmake_zero _).mono ?_); rintro e w1 ⟨p1, q1, p2, q2, rfl, k1, k2, hb⟩; have HM1 := Lib.hid ((HM.out.call hb).push w1.heap.size #[.bool false, .slice p1 0 q1, .slice p2 1 q2] 27 rfl); have HB1 := Lib.hid ((HB0.out.trans (hb.mono HB0.out.size)).alloc ((HB0.out.trans (hb.mono HB0.out.size)).size) (.cells #[.bool false, .slice p1 0 q1, .slice p2 1 q2] 27)); have HZ1 := Lib.hid ((k1.keep (below_alloc _ (.cells #[.bool false, .slice p1 0 q1, .slice p2 1 q2] 27))).rd); have HZ2 := Lib.hid ((k2.keep (below_alloc _ (.cells #[.bool false, .slice p1 0 q1, .slice p2 1 q2] 27))).rd); have HN2 := Lib.hid ((HN.out.keep hb).keep (below_alloc _ (.cells #[.bool false, .slice p1 0 q1, .slice p2 1 q2] 27))); have HD2 := Lib.hid ((HD.out.keep hb).keep (below_alloc _ (.cells #[.bool false, .slice p1 0 q1, .slice p2 1 q2] 27))); clear s0 s1 s2 s3 s4 s5 s6; obtain ⟨t0, t1, t2, -⟩ := HM1.out.lay3 0 rfl; obtain ⟨s0, s1, s2, s3, s4, s5, s6, -⟩ := HM1.out.lay7 1 rfl; clear k1 k2 hb)
      | (go_at_call 32; (with_reducible refine (fcmp_as HN2.out HD2.out HZ1.out HZ2.out HL1.out HL2.out HL3.out HL4.out HV.out HV2.out HC.out).mono ?_); rintro e w2 ⟨rfl, hb⟩; have HB2 := Lib.hid (HB1.out.trans (hb.mono HB1.out.size)); clear hb))
    go_ret
    exact ⟨rfl, HB2.out⟩

set_option maxRecDepth 20000 in
set_option maxHeartbeats 4000000 in
theorem rvalid_gen {w : World} {j : Jb} {an ad : Option Addr} {anc adc : Nat} (oj : OkJ j) (l1 : Lims j.n) (l2 : Lims j.d) (h1 : Rd eU w (.slice an j.n.length anc) j.n) (h2 : Rd eU w (.slice ad j.d.length adc) j.d) {r : Bool} (hr : (decide (okI j) && okR j) = r) :
    Calls Tryz.prog 14 #[jv j (.slice an j.n.length anc) (.slice ad j.d.length adc)] w fun e w' => e = .returned (.bool r) ∧ Below w.heap.size w w' := by
  obtain ⟨a1, a2, a3, a4, ng, n1, d1⟩ := j
  obtain ⟨o1, o2⟩ := oj
  simp only at l1 l2 h1 h2 o1 o2
  have HL1 := Lib.hid l1
  have HL2 := Lib.hid l2
  have HL3 := Lib.hid (lims4 (show 0 ≤ 4 by omega))
  have HL4 := Lib.hid (lims4 (show 1 ≤ 4 by omega))
  have HV2 := Lib.hid (validJ (n := 0) (d := 1) (by omega))
  have HK1 := Lib.hid (ln o1)
  have HK2 := Lib.hid (ln o2)
  have hM := (Mm.start (S := []) w (by simp)).push w.heap.size (jc ⟨a1, a2, a3, a4, ng, n1, d1⟩ (.slice an n1.length anc) (.slice ad d1.length adc)) 29 rfl
  have HM := Lib.hid hM
  have hB0 := hM.only.below (B := w.heap.size) (by simp) (Nat.le_refl _)
  have HB0 := Lib.hid hB0
  have HN := Lib.hid (h1.below hB0 (Nat.le_refl _))
  have HD := Lib.hid (h2.below hB0 (Nat.le_refl _))
  have HSG := Lib.hid (@rordQ_sign ng n1 d1 HL1.out)
  clear h1 h2 hM hB0 l1 l2 o1 o2
  obtain ⟨s0, s1, s2, s3, s4, s5, s6, -⟩ := HM.out.lay7 0 rfl
  by_cases c0 : a1 < 0
  · have b0 : decide (a1 < 0) = true := by simpa using c0
    obtain rfl : false = r := by rw [← hr, decide_eq_false (show ¬ okI ⟨a1, a2, a3, a4, ng, n1, d1⟩ by unfold okI; simp only; omega)]; rfl
    clear hr
    go_enter Tryz.func14, Tryz.ntmps14
    go_wp2_with fail
    go_ret
    exact ⟨rfl, HB0.out⟩
  have b0 : decide (a1 < 0) = false := by simp; omega
  by_cases c1 : 12 ≤ a1
  · have b1 : decide (12 ≤ a1) = true := by simpa using c1
    obtain rfl : false = r := by rw [← hr, decide_eq_false (show ¬ okI ⟨a1, a2, a3, a4, ng, n1, d1⟩ by unfold okI; simp only; omega)]; rfl
    clear hr
    go_enter Tryz.func14, Tryz.ntmps14
    go_wp2_with fail
    go_ret
    exact ⟨rfl, HB0.out⟩
  have b1 : decide (12 ≤ a1) = false := by simp; omega
  by_cases c2 : a2 < 0
  · have b2 : decide (a2 < 0) = true := by simpa using c2
    obtain rfl : false = r := by rw [← hr, decide_eq_false (show ¬ okI ⟨a1, a2, a3, a4, ng, n1, d1⟩ by unfold okI; simp only; omega)]; rfl
    clear hr
    go_enter Tryz.func14, Tryz.ntmps14
    go_wp2_with fail
    go_ret
    exact ⟨rfl, HB0.out⟩
  have b2 : decide (a2 < 0) = false := by simp; omega
  by_cases c3 : 8 ≤ a2
  · have b3 : decide (8 ≤ a2) = true := by simpa using c3
    obtain rfl : false = r := by rw [← hr, decide_eq_false (show ¬ okI ⟨a1, a2, a3, a4, ng, n1, d1⟩ by unfold okI; simp only; omega)]; rfl
    clear hr
    go_enter Tryz.func14, Tryz.ntmps14
    go_wp2_with fail
    go_ret
    exact ⟨rfl, HB0.out⟩
  have b3 : decide (8 ≤ a2) = false := by simp; omega
  by_cases c4 : a3 < 1
  · have b4 : decide (a3 < 1) = true := by simpa using c4
    obtain rfl : false = r := by rw [← hr, decide_eq_false (show ¬ okI ⟨a1, a2, a3, a4, ng, n1, d1⟩ by unfold okI; simp only; omega)]; rfl
    clear hr
    go_enter Tryz.func14, Tryz.ntmps14
    go_wp2_with fail
    go_ret
    exact ⟨rfl, HB0.out⟩
  have b4 : decide (a3 < 1) = false := by simp; omega
  by_cases c5 : 3 < a3
  · have b5 : decide (3 < a3) = true := by simpa using c5
    obtain rfl : false = r := by rw [← hr, decide_eq_false (show ¬ okI ⟨a1, a2, a3, a4, ng, n1, d1⟩ by unfold okI; simp only; omega)]; rfl
    clear hr
    go_enter Tryz.func14, Tryz.ntmps14
    go_wp2_with fail
    go_ret
    exact ⟨rfl, HB0.out⟩
  have b5 : decide (3 < a3) = false := by simp; omega
  by_cases c6 : a4 < 0
  · have b6 : decide (a4 < 0) = true := by simpa using c6
    obtain rfl : false = r := by rw [← hr, decide_eq_false (show ¬ okI ⟨a1, a2, a3, a4, ng, n1, d1⟩ by unfold okI; simp only; omega)]; rfl
    clear hr
    go_enter Tryz.func14, Tryz.ntmps14
    go_wp2_with fail
    go_ret
    exact ⟨rfl, HB0.out⟩
  have b6 : decide (a4 < 0) = false := by simp; omega
  by_cases c7 : 8 < a4
  · have b7 : decide (8 < a4) = true := by simpa using c7
    obtain rfl : false = r := by rw [← hr, decide_eq_false (show ¬ okI ⟨a1, a2, a3, a4, ng, n1, d1⟩ by unfold okI; simp only; omega)]; rfl
    clear hr
    go_enter Tryz.func14, Tryz.ntmps14
    go_wp2_with fail
    go_ret
    exact ⟨rfl, HB0.out⟩
  have b7 : decide (8 < a4) = false := by simp; omega
  have hri : decide (okI ⟨a1, a2, a3, a4, ng, n1, d1⟩) = true := decide_eq_true (by unfold okI; simp only; omega)
  rw [hri, Bool.true_and] at hr
  clear hri c0 c1 c2 c3 c4 c5 c6 c7
  unfold okR at hr
  simp only at hr
  have HX := Lib.hid (Holds.new w (jc ⟨a1, a2, a3, a4, ng, n1, d1⟩ (.slice an n1.length anc) (.slice ad d1.length adc)) 29)
  cases hv : validQ n1 d1 with
  | false =>
    rw [hv, Bool.false_and] at hr
    subst hr
    have HV := Lib.hid hv
    clear hv
    go_enter Tryz.func14, Tryz.ntmps14
    go_wp2_with (first
      | (go_at_call 30; (with_reducible refine (rfvalid_any HN.out HD.out HK1.out HK2.out HV.out).mono ?_); rintro e w1 ⟨rfl, hb⟩; have HB1 := Lib.hid (HB0.out.trans (hb.mono HB0.out.size)); have HX1 := Lib.hid (HX.out.keep hb); have HN1 := Lib.hid (HN.out.keep hb); have HD1 := Lib.hid (HD.out.keep hb); clear hb))
    go_ret
    exact ⟨rfl, HB1.out⟩
  | true =>
    rw [hv, Bool.true_and, ← HSG.out] at hr
    have HV := Lib.hid hv
    obtain ⟨c, hc⟩ : ∃ c, rordQ ng false (mulL n1 [1]) (mulL [] d1) = c := ⟨_, rfl⟩
    have HC := Lib.hid (show rordQ ng false (mulL n1 (limb 1)) (mulL (limb 0) d1) = c from hc)
    rw [hc] at hr
    clear hv hc HSG
    go_enter Tryz.func14, Tryz.ntmps14
    go_wp2_with (first
      | (go_at_call 30; (with_reducible refine (rfvalid_any HN.out HD.out HK1.out HK2.out HV.out).mono ?_); rintro e w1 ⟨rfl, hb⟩; have HB1 := Lib.hid (HB0.out.trans (hb.mono HB0.out.size)); have HX1 := Lib.hid (HX.out.keep hb); have HN1 := Lib.hid (HN.out.keep hb); have HD1 := Lib.hid (HD.out.keep hb); clear hb)
      | (go_at_call 27; (with_reducible refine (rmake01 _).mono ?_); rintro e w2 ⟨p1, q1, p2, q2, rfl, k1, k2, hb⟩; have hx := below_alloc w2 (.cells #[.bool false, .slice p1 (limb 0).length q1, .slice p2 (limb 1).length q2] 27); have HB2 := Lib.hid ((HB1.out.trans (hb.mono HB1.out.size)).alloc (HB1.out.trans (hb.mono HB1.out.size)).size (.cells #[.bool false, .slice p1 (limb 0).length q1, .slice p2 (limb 1).length q2] 27)); have HX2 := Lib.hid ((HX1.out.keep hb).keep hx); have HN2 := Lib.hid ((HN1.out.keep hb).keep hx); have HD2 := Lib.hid ((HD1.out.keep hb).keep hx); have HZ1 := Lib.hid ((k1.keep hx).rd); have HZ2 := Lib.hid ((k2.keep hx).rd); have HY := Lib.hid (Holds.new w2 #[.bool false, .slice p1 (limb 0).length q1, .slice p2 (limb 1).length q2] 27); clear s0 s1 s2 s3 s4 s5 s6; obtain ⟨s0, s1, s2, s3, s4, s5, s6, -⟩ := HX2.out.lay7; obtain ⟨t0, t1, t2, -⟩ := HY.out.lay3; clear hb hx k1 k2)
      | (go_at_call 29; (with_reducible refine (rfcmp_as HN2.out HD2.out HZ1.out HZ2.out HL1.out HL2.out HL3.out HL4.out HV.out HV2.out HC.out).mono ?_); rintro e w3 ⟨rfl, hb⟩; have HB3 := Lib.hid (HB2.out.trans (hb.mono HB2.out.size)); clear hb))
    go_ret
    exact ⟨rfl, HB3.out⟩

set_option maxRecDepth 20000 in
set_option maxHeartbeats 4000000 in
theorem order_self {w : World} {j : Jb} {an ad : Option Addr} {anc adc : Nat} (l1 : Lims j.n) (l2 : Lims j.d) (h1 : Rd eU w (.slice an j.n.length anc) j.n) (h2 : Rd eU w (.slice ad j.d.length adc) j.d) (hv : okR j = true) :
    Calls Tryz.prog 28 #[jv j (.slice an j.n.length anc) (.slice ad j.d.length adc), jv j (.slice an j.n.length anc) (.slice ad j.d.length adc)] w fun e w' => e = .returned (.int .i64 0) ∧ Below w.heap.size w w' := by
  obtain ⟨a1, a2, a3, a4, ng, n1, d1⟩ := j
  unfold okR at hv
  simp only [Bool.and_eq_true, Bool.not_eq_true'] at hv l1 l2 h1 h2
  have HL1 := Lib.hid l1
  have HL2 := Lib.hid l2
  have HV1 := Lib.hid hv.1
  have HC := Lib.hid (ordQ_self (N := n1) (D := d1) hv.2)
  have hM := ((Mm.start (S := []) w (by simp)).push w.heap.size (jc ⟨a1, a2, a3, a4, ng, n1, d1⟩ (.slice an n1.length anc) (.slice ad d1.length adc)) 29 rfl).push (w.heap.size + 1) (jc ⟨a1, a2, a3, a4, ng, n1, d1⟩ (.slice an n1.length anc) (.slice ad d1.length adc)) 29 (by simp)
  have HM := Lib.hid hM
  have hB0 := hM.only.below (B := w.heap.size) (by simp) (Nat.le_refl _)
  have HB0 := Lib.hid hB0
  have HN1 := Lib.hid (h1.below hB0 (Nat.le_refl _))
  have HD1 := Lib.hid (h2.below hB0 (Nat.le_refl _))
  clear h1 h2 hM hB0 hv l1 l2
  have q1 : (a3 != a3) = false := by simp
  have q3 : (a4 != a4) = false := by simp
  have q4 : (a1 != a1) = false := by simp
  have q5 : a2 - a2 = 0 := by omega
  go_enter Tryz.func28, Tryz.ntmps28
  go_wp2_with (first
    | (go_at_call 32; (with_reducible refine (fcmp_as HN1.out HD1.out HN1.out HD1.out HL1.out HL2.out HL1.out HL2.out HV1.out HV1.out HC.out).mono ?_); rintro e w1 ⟨rfl, hb⟩; have HM1 := Lib.hid (HM.out.call hb); have HB1 := Lib.hid (HB0.out.trans (hb.mono HB0.out.size)); obtain ⟨t0, t1, t2, t3, t4, t5, t6, -⟩ := HM1.out.lay7 0 rfl; obtain ⟨s0, s1, s2, s3, s4, s5, s6, -⟩ := HM1.out.lay7 1 rfl; clear hb))
  go_ret
  exact ⟨rfl, HB1.out⟩

set_option maxRecDepth 20000 in
set_option maxHeartbeats 4000000 in
/-- a job comes not before itself -/
theorem before_self {w : World} {j : Jb} {an ad : Option Addr} {anc adc : Nat} (oj : OkJ j) (l1 : Lims j.n) (l2 : Lims j.d) (h1 : Rd eU w (.slice an j.n.length anc) j.n) (h2 : Rd eU w (.slice ad j.d.length adc) j.d) :
    Calls Tryz.prog 8 #[jv j (.slice an j.n.length anc) (.slice ad j.d.length adc), jv j (.slice an j.n.length anc) (.slice ad j.d.length adc)] w fun e w' => e = .returned (.bool false) ∧ Below w.heap.size w w' := by
  have hM := ((Mm.start (S := []) w (by simp)).push w.heap.size (jc j (.slice an j.n.length anc) (.slice ad j.d.length adc)) 29 rfl).push (w.heap.size + 1) (jc j (.slice an j.n.length anc) (.slice ad j.d.length adc)) 29 (by simp)
  have HM := Lib.hid hM
  have hB0 := hM.only.below (B := w.heap.size) (by simp) (Nat.le_refl _)
  have HB0 := Lib.hid hB0
  have HN1 := Lib.hid (h1.below hB0 (Nat.le_refl _))
  have HD1 := Lib.hid (h2.below hB0 (Nat.le_refl _))
  obtain ⟨r, hr⟩ : ∃ r, (decide (okI j) && okR j) = r := ⟨_, rfl⟩
  have KV : ∀ wz, Hid (Rd eU wz (.slice an j.n.length anc) j.n → Rd eU wz (.slice ad j.d.length adc) j.d → Calls Tryz.prog 15 #[jv j (.slice an j.n.length anc) (.slice ad j.d.length adc)] wz fun e w' => e = .returned (.bool r) ∧ Below wz.heap.size wz w') := fun wz => Lib.hid fun p q => valid_gen oj l1 l2 p q hr
  have KO : ∀ wz, Hid (r = true → Rd eU wz (.slice an j.n.length anc) j.n → Rd eU wz (.slice ad j.d.length adc) j.d → Calls Tryz.prog 28 #[jv j (.slice an j.n.length anc) (.slice ad j.d.length adc), jv j (.slice an j.n.length anc) (.slice ad j.d.length adc)] wz fun e w' => e = .returned (.int .i64 0) ∧ Below wz.heap.size wz w') := fun wz => Lib.hid fun h p q => order_self l1 l2 p q (by rw [h] at hr; exact (Bool.and_eq_true _ _ ▸ hr).2)
  have TOK := Lib.hid True.intro
  obtain ⟨a1, a2, a3, a4, ng, n1, d1⟩ := j
  clear h1 h2 hM hB0 hr oj l1 l2
  cases r with
  | false =>
    go_enter Tryz.func8, Tryz.ntmps8
    go_wp2_with (go_at_call 15; (with_reducible refine ((KV _).out HN1.out HD1.out).mono ?_); rintro e w1 ⟨rfl, hb⟩; have HB1 := Lib.hid (HB0.out.trans (hb.mono HB0.out.size)); clear hb)
    go_ret
    exact ⟨rfl, HB1.out⟩
  | true =>
    have KO2 := fun wz => Lib.hid ((KO wz).out rfl)
    clear KO
    go_enter Tryz.func8, Tryz.ntmps8
    go_wp2_with (first
      | (go_at_call 15; have _t := TOK; (with_reducible refine ((KV _).out HN1.out HD1.out).mono ?_); rintro e w1 ⟨rfl, hb⟩; have HM1 := Lib.hid (HM.out.call hb); have HB1 := Lib.hid (HB0.out.trans (hb.mono HB0.out.size)); have HX1 := Lib.hid (HN1.out.keep hb); have HY1 := Lib.hid (HD1.out.keep hb); obtain ⟨t0, t1, t2, t3, t4, t5, t6, -⟩ := HM1.out.lay7 0 rfl; have TOK2 := Lib.hid True.intro; clear hb TOK _t)
      | (go_at_call 15; have _t := TOK2; (with_reducible refine ((KV _).out HX1.out HY1.out).mono ?_); rintro e w2 ⟨rfl, hb⟩; have HM2 := Lib.hid (HM1.out.call hb); have HB2 := Lib.hid (HB1.out.trans (hb.mono HB1.out.size)); have HU1 := Lib.hid (HX1.out.keep hb); have HV1 := Lib.hid (HY1.out.keep hb); clear t0 t1 t2 t3 t4 t5 t6; obtain ⟨t0, t1, t2, t3, t4, t5, t6, -⟩ := HM2.out.lay7 0 rfl; obtain ⟨s0, s1, s2, s3, s4, s5, s6, -⟩ := HM2.out.lay7 1 rfl; clear hb TOK2 _t)
      | (go_at_call 28; (with_reducible refine ((KO2 _).out HU1.out HV1.out).mono ?_); rintro e w3 ⟨rfl, hb⟩; have HB3 := Lib.hid (HB2.out.trans (hb.mono HB2.out.size)); clear hb))
    go_ret
    exact ⟨rfl, HB3.out⟩
end V
end Go.Proofs.YtgnmolleaengaaaGreat
