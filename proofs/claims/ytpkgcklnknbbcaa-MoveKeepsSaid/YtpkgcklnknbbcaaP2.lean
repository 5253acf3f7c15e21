/- The walk of Play. -/
import Derived.Test.YtpkgcklnknbbcaaP1
import Derived.Test.YtpkgcklnknbbcaaN2
set_option linter.unusedVariables false
set_option linter.unusedSimpArgs false
set_option linter.unnecessarySimpa false
namespace Go.Proofs.Ytpkgcklnknbbcaa
open Go.RowKit

theorem play_stop {p s v : Int} {d : Bool} {es : List Ev} {k : Nat} {res y : St × Int} {ek et : Int} (hF : playF (p, s, v, d) (es.drop k) k = res) (hk : k < es.length) (hE : es.getD k (0, 0) = (ek, et))
    (hY : applyF p s v d ek et = y) (hn : (y.2 != 0) = true) : res = ((p, s, v, d), (k : Int)) := by
  rw [playF_drop _ _ _ hk, hE] at hF
  have e : applyS (p, s, v, d) (ek, et) = y := hY
  rw [e, if_neg (by simpa using hn)] at hF
  exact hF.symm
theorem play_step {p s v : Int} {d : Bool} {es : List Ev} {k : Nat} {res : St × Int} {x : St} {nn : Int} {ek et : Int} (hF : playF (p, s, v, d) (es.drop k) k = res) (hk : k < es.length) (hE : es.getD k (0, 0) = (ek, et))
    (hY : applyF p s v d ek et = (x, nn)) (hn : (nn != 0) = false) : playF x (es.drop (k + 1)) (k + 1) = res := by
  rw [playF_drop _ _ _ hk, hE] at hF
  have e : applyS (p, s, v, d) (ek, et) = (x, nn) := hY
  have h0 : nn = 0 := by simpa using hn
  rw [e, if_pos h0] at hF
  exact hF
theorem applyF_bounds {p s v k t : Int} {d : Bool} {p' s' v' : Int} {d' : Bool} {n : Int} (h : applyF p s v d k t = ((p', s', v', d'), n)) (hn : (n != 0) = false) : validB p' s' v' = true ∧ -9223372036854775808 ≤ v' ∧ v' ≤ 9223372036854775807 := by
  have h0 : n = 0 := by simpa using hn
  subst h0
  have hv := applyF_valid h
  obtain ⟨b1, b4, b2, b3⟩ := valid_bounds hv
  have := allOf_le b1 b4
  exact ⟨hv, by omega, by omega⟩
theorem play_end {p s v : Int} {d : Bool} {es : List Ev} {k : Nat} {res : St × Int} (hF : playF (p, s, v, d) (es.drop k) k = res) (hk : es.length ≤ k) : res = ((p, s, v, d), (k : Int)) := by
  rw [List.drop_eq_nil_of_le hk] at hF
  exact hF.symm

theorem ret23 {x : St × Int} {w w' : World} {a : Act} {f : Func} (h : (results f a.tmps).run Try.prog w' = .ok (.tuple #[stV x.1, .int .i64 x.2]) w') (hd : a.defers = []) (hb : Below w.heap.size w w') :
    bodyPost Try.prog f (RetA x w) .ret a w' := bodyPost_ret h hd ⟨rfl, hb⟩

set_option maxHeartbeats 1000000 in
theorem play_any (p s v : Int) (d : Bool) (es : List Ev) (vl : Value) (w : World) (he : Evs w vl es) (hv1 : -9223372036854775808 ≤ v) (hv2 : v ≤ 9223372036854775807) :
    Calls Try.prog 23 #[.agg #[.int .i64 p, .int .i64 s, .int .i64 v, .bool d], vl] w (RetA (playF (p, s, v, d) es 0) w) := by
  obtain ⟨a, cap, rfl, hl, hi⟩ := he
  obtain ⟨res, hres⟩ : ∃ res, res = playF (p, s, v, d) es 0 := ⟨_, rfl⟩
  rw [← hres]
  have HR := Lib.hid hres
  have HI := Lib.hid hi
  have hlen : ∃ n, n = es.length := ⟨_, rfl⟩
  obtain ⟨n, hn⟩ := hlen
  have HN := Lib.hid hn
  rw [← hn] at hl ⊢
  clear hi hn hres
  have HE := Lib.hid (enterP w p s v d)
  have HV := Lib.hid (And.intro hv1 hv2)
  clear hv1 hv2
  go_enter Try.func23, Try.ntmps23
  go_wp2_with fail
  go_loopw [12] (fun i wr => ∃ (k : Nat) (p' s' v' : Int) (d' : Bool), k ≤ n ∧ i = .int .i64 k ∧ InP w wr p' s' v' d' ∧ Hid (playF (p', s', v', d') (es.drop k) k = res) ∧ Hid (k = 0 ∨ validB p' s' v' = true) ∧ Hid (-9223372036854775808 ≤ v' ∧ v' ≤ 9223372036854775807)) (fun i _ => n - (intOf i).toNat)
  case atStart => exact ⟨0, p, s, v, d, by omega, rfl, HE.out, Lib.hid (by rw [HR.out]; rfl), Lib.hid (.inl rfl), HV⟩
  case round =>
    clear HE HV
    rename World => wr
    obtain ⟨k, p', s', v', d', hk, rfl, hP, HF, HK, HV⟩ := hrel
    have HP := Lib.hid hP
    clear hP
    by_cases hlt : k < n
    · obtain ⟨b, off, rfl, hbs, hek, het⟩ := HI.out k (by rw [← HN.out]; exact hlt)
      have hek' := (HP.out.below.cell (p := ⟨b, off + k * 2, none⟩) hbs).trans hek
      have het' := (HP.out.below.cell (p := ⟨b, off + k * 2 + 1, none⟩) hbs).trans het
      generalize hE : es.getD k (0, 0) = E at *
      obtain ⟨ek, et⟩ := E
      have HE := Lib.hid hE
      clear hek het hE
      obtain ⟨⟨⟨q, r, x, e⟩, nn⟩, hY⟩ : ∃ y, applyF p' s' v' d' ek et = y := ⟨_, rfl⟩
      have HY := Lib.hid hY
      clear hY
      (obtain ⟨c0, c1, c2, c3⟩ := (HP).out.a
       obtain ⟨c6, c7, c8, c9⟩ := (HP).out.r
       have cf0 := (HP).out.fa 0
       have cf1 := (HP).out.fa 1
       have cf2 := (HP).out.fa 2
       have cf3 := (HP).out.fa 3
       have cg0 := (HP).out.fr 0
       have cg1 := (HP).out.fr 1
       have cg2 := (HP).out.fr 2
       have cg3 := (HP).out.fr 3
       have hz1 := (HP).out.size
       have hz0 := Nat.lt_of_succ_lt hz1)
      go_wp2_with (go_at_call 16; refine (apply_as HY.out _ HV.out.1 HV.out.2).mono ?_; rintro e1 w1 ⟨rfl, hb1⟩; have HP1 := Lib.hid ((HP.out.new _).call hb1); clear c0 c1 c2 c3 c6 c7 c8 c9 cf0 cf1 cf2 cf3 cg0 cg1 cg2 cg3 hz1 hz0 hb1; (obtain ⟨c0, c1, c2, c3⟩ := (HP1).out.a
                                                                                                                                                                                                                                            obtain ⟨c6, c7, c8, c9⟩ := (HP1).out.r
                                                                                                                                                                                                                                            have cf0 := (HP1).out.fa 0
                                                                                                                                                                                                                                            have cf1 := (HP1).out.fa 1
                                                                                                                                                                                                                                            have cf2 := (HP1).out.fa 2
                                                                                                                                                                                                                                            have cf3 := (HP1).out.fa 3
                                                                                                                                                                                                                                            have cg0 := (HP1).out.fr 0
                                                                                                                                                                                                                                            have cg1 := (HP1).out.fr 1
                                                                                                                                                                                                                                            have cg2 := (HP1).out.fr 2
                                                                                                                                                                                                                                            have cg3 := (HP1).out.fr 3
                                                                                                                                                                                                                                            have hz1 := (HP1).out.size
                                                                                                                                                                                                                                            have hz0 := Nat.lt_of_succ_lt hz1))
      · have hne : (nn != 0) = true := by assumption
        have hres := play_stop HF.out (by rw [← HN.out]; exact hlt) HE.out HY.out hne
        refine ret23 ?_ rfl ?_
        · rw [hres]; simp [results, Try.f23, go_sem, stV, c6, c7, c8, c9, hz0, hz1]
        · (repeat first | with_reducible refine below_set ?_ (by omega) | with_reducible refine below_new ?_); with_reducible exact HP1.out.below
      · have hne : (nn != 0) = false := by assumption
        have hst := play_step HF.out (by rw [← HN.out]; exact hlt) HE.out HY.out hne
        have hbd := applyF_bounds HY.out hne
        go_roundw
        case rel => exact ⟨k + 1, q, r, x, e, by omega, by go_num, HP1.out.set.new _, Lib.hid hst, Lib.hid (.inr hbd.1), Lib.hid hbd.2⟩
        case measure => simp [intOf]; omega
    · have hkn : k = n := by omega
      have hres := play_end HF.out (by rw [← HN.out]; omega)
      have HS := Lib.hid hres
      have HKN := Lib.hid hkn
      clear hres hkn
      obtain ⟨vb, hvb⟩ : ∃ vb, vb = validB p' s' v' := ⟨_, rfl⟩
      have HVB := Lib.hid hvb.symm
      clear hvb
      (obtain ⟨c0, c1, c2, c3⟩ := (HP).out.a
       obtain ⟨c6, c7, c8, c9⟩ := (HP).out.r
       have cf0 := (HP).out.fa 0
       have cf1 := (HP).out.fa 1
       have cf2 := (HP).out.fa 2
       have cf3 := (HP).out.fa 3
       have cg0 := (HP).out.fr 0
       have cg1 := (HP).out.fr 1
       have cg2 := (HP).out.fr 2
       have cg3 := (HP).out.fr 3
       have hz1 := (HP).out.size
       have hz0 := Nat.lt_of_succ_lt hz1)
      cases vb
      all_goals
        go_wp2_with (go_at_call 14; refine (valid_any _ _ _ _ _ HV.out.1 HV.out.2).mono ?_; rintro e1 w1 ⟨rfl, hb1⟩; have HP1 := Lib.hid (HP.out.call hb1); have hval := HVB.out; clear c0 c1 c2 c3 c6 c7 c8 c9 cf0 cf1 cf2 cf3 cg0 cg1 cg2 cg3 hz1 hz0 hb1; (obtain ⟨c0, c1, c2, c3⟩ := (HP1).out.a
                                                                                                                                                                                                                                                              obtain ⟨c6, c7, c8, c9⟩ := (HP1).out.r
                                                                                                                                                                                                                                                              have cf0 := (HP1).out.fa 0
                                                                                                                                                                                                                                                              have cf1 := (HP1).out.fa 1
                                                                                                                                                                                                                                                              have cf2 := (HP1).out.fa 2
                                                                                                                                                                                                                                                              have cf3 := (HP1).out.fa 3
                                                                                                                                                                                                                                                              have cg0 := (HP1).out.fr 0
                                                                                                                                                                                                                                                              have cg1 := (HP1).out.fr 1
                                                                                                                                                                                                                                                              have cg2 := (HP1).out.fr 2
                                                                                                                                                                                                                                                              have cg3 := (HP1).out.fr 3
                                                                                                                                                                                                                                                              have hz1 := (HP1).out.size
                                                                                                                                                                                                                                                              have hz0 := Nat.lt_of_succ_lt hz1))
        refine ret23 ?_ rfl ?_
        · rw [HS.out]
          first
            | (have hk0 : k = 0 := (HK.out).resolve_right (by rw [HVB.out]; decide)
               rw [hk0]
               simp [results, Try.f23, go_sem, stV, c6, c7, c8, c9, hz0, hz1]
               done)
            | (rw [HKN.out]
               simp [results, Try.f23, go_sem, stV, c6, c7, c8, c9, hz0, hz1]
               done)
        · (repeat first | with_reducible refine below_set ?_ (by omega) | with_reducible refine below_new ?_); with_reducible exact HP1.out.below
end Go.Proofs.Ytpkgcklnknbbcaa
