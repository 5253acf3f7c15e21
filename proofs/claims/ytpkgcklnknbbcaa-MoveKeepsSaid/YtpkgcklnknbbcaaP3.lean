/- The walk of the reference's Play. -/
import Derived.Test.YtpkgcklnknbbcaaP2
import Derived.Test.YtpkgcklnknbbcaaLate
set_option linter.unusedVariables false
set_option linter.unusedSimpArgs false
set_option linter.unnecessarySimpa false
namespace Go.Proofs.Ytpkgcklnknbbcaa
open Go.RowKit

theorem factsP {w : World} {p s v : Int} {d : Bool} {b off k : Nat} {ek et : Int} (hbs : b < w.heap.size) (h0 : w.cell? ⟨b, off + k * 2, none⟩ = some (.int .i64 ek)) (h1 : w.cell? ⟨b, off + k * 2 + 1, none⟩ = some (.int .i64 et)) (w' : World) (h : InP w w' p s v d) :
    w'.cell? ⟨b, off + k * 2, none⟩ = some (.int .i64 ek) ∧ w'.cell? ⟨b, off + k * 2 + 1, none⟩ = some (.int .i64 et) ∧ w'.cell? ⟨w.heap.size, 0, none⟩ = some (.int .i64 p) ∧ w'.cell? ⟨w.heap.size, 1, none⟩ = some (.int .i64 s) ∧ w'.cell? ⟨w.heap.size, 2, none⟩ = some (.int .i64 v) ∧ w'.cell? ⟨w.heap.size, 3, none⟩ = some (.bool d) :=
  ⟨(h.below.cell (p := ⟨b, off + k * 2, none⟩) hbs).trans h0, (h.below.cell (p := ⟨b, off + k * 2 + 1, none⟩) hbs).trans h1, h.a⟩

def upP (w wr : World) (p s v : Int) (d : Bool) (w' : World) : Prop := InP w w' p s v d ∧ wr.heap.size ≤ w'.heap.size
theorem upP_stable {w wr : World} {p s v : Int} {d : Bool} : Stable (upP w wr p s v d) := fun _ _ h hb => ⟨h.1.call hb, Nat.le_trans h.2 hb.size⟩
theorem upP_set {w wr : World} {p s v : Int} {d : Bool} (hz : w.heap.size + 1 < wr.heap.size) (w' : World) (b i : Nat) (x : Value) (h : upP w wr p s v d w') (hb : wr.heap.size ≤ b) : upP w wr p s v d (w'.setCell ⟨b, i, none⟩ x) := by
  obtain ⟨⟨⟨a0, a1, a2, a3⟩, ⟨r0, r1, r2, r3⟩, fa, fr, z, hbl⟩, h2⟩ := h
  have n1 : b ≠ w.heap.size := by omega
  have n2 : b ≠ w.heap.size + 1 := by omega
  refine ⟨⟨⟨?_, ?_, ?_, ?_⟩, ⟨?_, ?_, ?_, ?_⟩, fa.setCell _ _, fr.setCell _ _, by simpa using z, hbl.setCell (by show w.heap.size ≤ b; omega) _⟩, by simpa using h2⟩
  all_goals
    rw [World.cell?_setCell_other]
    · assumption
    · simp [n1, n2, n1.symm, n2.symm]
theorem factsP' {w wr : World} {p s v : Int} {d : Bool} {b off k : Nat} {ek et : Int} (hbs : b < w.heap.size) (h0 : w.cell? ⟨b, off + k * 2, none⟩ = some (.int .i64 ek)) (h1 : w.cell? ⟨b, off + k * 2 + 1, none⟩ = some (.int .i64 et)) (w' : World) (h : upP w wr p s v d w') :
    w'.cell? ⟨b, off + k * 2, none⟩ = some (.int .i64 ek) ∧ w'.cell? ⟨b, off + k * 2 + 1, none⟩ = some (.int .i64 et) ∧ w'.cell? ⟨w.heap.size, 0, none⟩ = some (.int .i64 p) ∧ w'.cell? ⟨w.heap.size, 1, none⟩ = some (.int .i64 s) ∧ w'.cell? ⟨w.heap.size, 2, none⟩ = some (.int .i64 v) ∧ w'.cell? ⟨w.heap.size, 3, none⟩ = some (.bool d) :=
  factsP hbs h0 h1 w' h.1

set_option maxHeartbeats 1000000 in
theorem refPlay_any (p s v : Int) (d : Bool) (es : List Ev) (vl : Value) (w : World) (he : Evs w vl es) :
    Calls Try.prog 24 #[.agg #[.int .i64 p, .int .i64 s, .int .i64 v, .bool d], vl] w (RetA (playF (p, s, v, d) es 0) w) := by
  obtain ⟨a, cap, rfl, hl, hi⟩ := he
  obtain ⟨res, hres⟩ : ∃ res, res = playF (p, s, v, d) es 0 := ⟨_, rfl⟩
  rw [← hres]
  have HR := Lib.hid hres
  have HI := Lib.hid hi
  have hlen : ∃ n, n = es.length := ⟨_, rfl⟩
  obtain ⟨n, hn⟩ := hlen
  have HN := Lib.hid hn
  rw [← hn] at hl ⊢
  clear hi hn hres
  have HE := Lib.hid (enterP w p s v d)
  go_enter Try.func24, Try.ntmps24
  go_wp2_with fail
  go_loopw [6] (fun i wr => ∃ (k : Nat) (p' s' v' : Int) (d' : Bool), k ≤ n ∧ i = .int .i64 k ∧ InP w wr p' s' v' d' ∧ Hid (playF (p', s', v', d') (es.drop k) k = res)) (fun i _ => n - (intOf i).toNat)
  case atStart => exact ⟨0, p, s, v, d, by omega, rfl, HE.out, Lib.hid (by rw [HR.out]; rfl)⟩
  case round =>
    clear HE
    rename World => wr
    obtain ⟨k, p', s', v', d', hk, rfl, hP, HF⟩ := hrel
    have HP := Lib.hid hP
    clear hP
    by_cases hlt : k < n
    · obtain ⟨b, off, rfl, hbs, hek, het⟩ := HI.out k (by rw [← HN.out]; exact hlt)
      have hek' := (HP.out.below.cell (p := ⟨b, off + k * 2, none⟩) hbs).trans hek
      have het' := (HP.out.below.cell (p := ⟨b, off + k * 2 + 1, none⟩) hbs).trans het
      generalize hE : es.getD k (0, 0) = E at *
      obtain ⟨ek, et⟩ := E
      have HE := Lib.hid hE
      clear hE
      obtain ⟨⟨⟨q, r, x, e⟩, nn⟩, hY⟩ : ∃ y, applyF p' s' v' d' ek et = y := ⟨_, rfl⟩
      have HY := Lib.hid hY
      have HEK := Lib.hid hek
      have HET := Lib.hid het
      clear hY hek het
      go_wp2_with fail
      clear hek' het'
      have hzr := HP.out.size
      refine wp_region_late (upP w wr p' s' v' d') 9 (by kernel_rfl) (by kernel_rfl) upP_stable ⟨HP.out, Nat.le_refl _⟩ ?_
      simp only [List.take_succ_cons, List.take_zero, List.drop_succ_cons, List.drop_zero]
      repeat first
               | (apply bRow_plain
                  · exact rfl
                  · intro wg hg
                    have hc := (factsP' hbs HEK.out HET.out) wg hg
                    go_simp
                    first
                      | exact rfl
                      | exact ⟨Below.refl _ _, rfl⟩
                      | ((refine (refApply_as HY.out _).mono ?_; rintro e w1 ⟨rfl, hb1⟩; exact ⟨rfl, hb1⟩))
                  intro K hK
                  go_simp
                  refine hK _ ?_
                  clear hK K)
               | (apply bRow_step
                  · go_simp; done
                  · intro wg hg
                    have hc := (factsP' hbs HEK.out HET.out) wg hg
                    go_simp
                    first
                      | exact rfl
                      | exact ⟨Below.refl _ _, rfl⟩
                      | ((refine (refApply_as HY.out _).mono ?_; rintro e w1 ⟨rfl, hb1⟩; exact ⟨rfl, hb1⟩))
                  intro K hK
                  go_simp
                  refine hK _ ?_
                  clear hK K)
               | (apply bRow_not
                  · go_simp; done
                  intro K hK
                  go_simp
                  refine hK _ ?_
                  clear hK K)
      refine bRow_nil ?_
      refine sRow_alloc4 wr.heap.size upP_stable (fun _ h => h.2) (fun _ h => h) rfl (by intro w0; go_simp) ?_
      intro b0 K hK
      go_simp
      refine hK _ ?_
      clear hK K
      refine sRow_store4 upP_stable (upP_set hzr) rfl (by intros; go_simp; rfl) ?_
      intro K hK
      go_simp
      refine hK _ ?_
      clear hK K
      refine sRow_same (.int .i64 nn) rfl (by intro w0 h0; go_simp; first | exact Below.refl _ _ | exact ⟨Below.refl _ _, rfl⟩) ?_
      intro K hK
      go_simp
      refine hK _ ?_
      clear hK K
      refine sRow_nil ?_
      rintro w1 hW1
      obtain ⟨⟨hP1, hz2⟩, ⟨e0, e1, e2, e3⟩, ht, hb0, hb1⟩ := hW1
      have HP1 := Lib.hid hP1
      clear hP1 ht
      (obtain ⟨c0, c1, c2, c3⟩ := (HP1).out.a
       obtain ⟨c6, c7, c8, c9⟩ := (HP1).out.r
       have cf0 := (HP1).out.fa 0
       have cf1 := (HP1).out.fa 1
       have cf2 := (HP1).out.fa 2
       have cf3 := (HP1).out.fa 3
       have cg0 := (HP1).out.fr 0
       have cg1 := (HP1).out.fr 1
       have cg2 := (HP1).out.fr 2
       have cg3 := (HP1).out.fr 3
       have hz1 := (HP1).out.size
       have hz0 := Nat.lt_of_succ_lt hz1)
      have ne0 : b0 ≠ w.heap.size := by omega
      have ne1 : b0 ≠ w.heap.size + 1 := by omega
      go_wp2_with fail
      · have hne : (nn != 0) = true := by assumption
        have hres := play_stop HF.out (by rw [← HN.out]; exact hlt) HE.out HY.out hne
        refine ret23 ?_ rfl ?_
        · rw [hres]; simp [results, Try.f24, go_sem, stV, c6, c7, c8, c9, hz0, hz1]
        · (repeat first | with_reducible refine below_set ?_ (by omega) | with_reducible refine below_new ?_); with_reducible exact HP1.out.below
      · have hne : (nn != 0) = false := by assumption
        have hst := play_step HF.out (by rw [← HN.out]; exact hlt) HE.out HY.out hne
        go_roundw
        case rel => exact ⟨k + 1, q, r, x, e, by omega, by go_num, HP1.out.set, Lib.hid hst⟩
        case measure => simp [intOf]; omega
    · have hkn : k = n := by omega
      have hres := play_end HF.out (by rw [← HN.out]; omega)
      have HS := Lib.hid hres
      have HKN := Lib.hid hkn
      clear hres hkn
      (obtain ⟨c0, c1, c2, c3⟩ := (HP).out.a
       obtain ⟨c6, c7, c8, c9⟩ := (HP).out.r
       have cf0 := (HP).out.fa 0
       have cf1 := (HP).out.fa 1
       have cf2 := (HP).out.fa 2
       have cf3 := (HP).out.fa 3
       have cg0 := (HP).out.fr 0
       have cg1 := (HP).out.fr 1
       have cg2 := (HP).out.fr 2
       have cg3 := (HP).out.fr 3
       have hz1 := (HP).out.size
       have hz0 := Nat.lt_of_succ_lt hz1)
      go_wp2_with fail
      refine ret23 ?_ rfl ?_
      · rw [HS.out, HKN.out]
        simp [results, Try.f24, go_sem, stV, c6, c7, c8, c9, hz0, hz1]
      · (repeat first | with_reducible refine below_set ?_ (by omega) | with_reducible refine below_new ?_); with_reducible exact HP.out.below
end Go.Proofs.Ytpkgcklnknbbcaa
