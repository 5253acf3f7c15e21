/- What ended stays old; the drives of the law's tables. -/
import Derived.Test.YtnhpjmjinchamaaEn
set_option linter.unusedVariables false
set_option linter.unusedSimpArgs false
set_option linter.unnecessarySimpa false
namespace Go.Proofs.Ytnhpjmjinchamaa
section
variable {N : Nat} {T : Tb} {x : Ls}

theorem Dr.add (h : Dr T) {v f d e : Int} (hd : d < 5) (mv : Bool) : Dr (addT T ⟨v, f, d, e, 0, mv⟩).2 := by
  have q7 : ((7 : Int), (7 : Int)) ≠ (d, e) := fun q => by cases q; omega
  refine ⟨fun k a ha => ?_, fun k b hb => ?_, ?_⟩
  · change (if mv then T.h else upd T.h (v, f) (some ⟨v, f, d, e, T.g (v, f) + 1, mv⟩)) k = some a at ha
    cases mv
    · simp only [Bool.false_eq_true, if_false] at ha
      by_cases q : k = (v, f)
      · subst q; rw [upd_same] at ha; cases ha; exact hd
      · rw [upd_other _ _ q] at ha; exact h.hd k a ha
    · exact h.hd k a ha
  · change (if mv then upd T.m (v, f) (some ⟨v, f, d, e, T.g (v, f) + 1, mv⟩) else T.m) k = some b at hb
    cases mv
    · exact h.md k b hb
    · simp only [if_true] at hb
      by_cases q : k = (v, f)
      · subst q; rw [upd_same] at hb; cases hb; exact hd
      · rw [upd_other _ _ q] at hb; exact h.md k b hb
  · change upd T.u (d, e) _ (7, 7) = none
    rw [upd_other _ _ q7]; exact h.u7
theorem upd_none {U : Pk → Option Ls} (h : U (7, 7) = none) (k : Pk) : upd U k none (7, 7) = none := by
  by_cases q : ((7 : Int), (7 : Int)) = k
  · subst q; exact upd_same ..
  · rw [upd_other _ _ q]; exact h
theorem Dr.end (h : Dr T) (v f : Int) : Dr (endF T v f).2 := by
  unfold endF
  split
  · split
    · exact h
    · refine ⟨h.hd, fun k b hb => ?_, upd_none h.u7 _⟩
      by_cases q : k = (v, f)
      · subst q; simp only [upd_same] at hb; cases hb
      · simp only [upd_other _ _ q] at hb; exact h.md k b hb
  · exact h
theorem Dr.comm (h : Dr T) {v f : Int} {l : Ls} (hl : T.m (v, f) = some l) (x : Ls) : Dr { T with m := upd T.m (v, f) none, h := upd T.h (v, f) (some { l with mov := false }), u := upd (upd (upd T.u (l.drive, l.ext) none) (x.drive, x.ext) none) (l.drive, l.ext) (some { l with mov := false }) } := by
  have hd := h.md _ l hl
  have q7 : ((7 : Int), (7 : Int)) ≠ (l.drive, l.ext) := fun q => by
    have := congrArg Prod.fst q
    simp only at this
    omega
  refine ⟨fun k a ha => ?_, fun k b hb => ?_, ?_⟩
  · by_cases q : k = (v, f)
    · subst q; simp only [upd_same] at ha; cases ha; exact hd
    · simp only [upd_other _ _ q] at ha; exact h.hd k a ha
  · by_cases q : k = (v, f)
    · subst q; simp only [upd_same] at hb; cases hb
    · simp only [upd_other _ _ q] at hb; exact h.md k b hb
  · show upd _ _ _ (7, 7) = none
    rw [upd_other _ _ q7]
    exact upd_none (upd_none h.u7 _) _
theorem Dr.step (h : Dr T) (hi : Inv N T) {o : Opc} (hd : o.drive < 5) : Dr (stepT T o) := by
  unfold stepT
  split
  · unfold placeF
    split
    · split
      · exact h
      · exact h.add hd _
    · exact h
  split
  · unfold grantF
    split
    · split
      · exact h
      · exact h.add hd _
    · exact h
  split
  · obtain ⟨x, n, T', he⟩ : ∃ x n T', commitF T o.vol o.frag = ((x, n), T') := ⟨_, _, _, rfl⟩
    rw [he]
    rcases commitF_ok hi he with ⟨_, l, h1, _, rfl⟩ | ⟨_, rfl, _⟩
    · exact h.comm h1 x
    · exact h
  split
  · exact h.end _ _
  split
  · unfold advF
    split
    · exact h
    · split <;> exact ⟨h.hd, h.md, h.u7⟩
  split
  · unfold verF
    split
    · exact h
    · split <;> exact ⟨h.hd, h.md, h.u7⟩
  · exact h
theorem Inv.step (h : Inv N T) (o : Opc) : Inv (N + 1) (stepT T o) := by
  unfold stepT
  split
  · exact h.place _ _ _ _
  split
  · exact h.grant _ _ _ _
  split
  · exact (h.commit _ _).mono (by omega)
  split
  · exact (h.end _ _).mono (by omega)
  split
  · unfold advF
    split
    · exact h.mono (by omega)
    · split <;> exact ⟨(h.mono (by omega)).gs, h.hg, h.mg, h.hm, h.mh⟩
  split
  · unfold verF
    split
    · exact h.mono (by omega)
    · split <;> exact ⟨(h.mono (by omega)).gs, h.hg, h.mg, h.hm, h.mh⟩
  · exact h.mono (by omega)

theorem Ended.add (h : Ended T x) (v f d e : Int) (mv : Bool) : Ended (addT T ⟨v, f, d, e, 0, mv⟩).2 x := by
  have h1 := h.hi
  refine ⟨h.low, ?_, fun a ha => ?_, fun b hb => ?_⟩
  · show x.gen ≤ upd T.g (v, f) (T.g (v, f) + 1) (x.vol, x.frag)
    by_cases q : (x.vol, x.frag) = (v, f)
    · rw [q] at h1 ⊢; rw [upd_same]; omega
    · rw [upd_other _ _ q]; exact h1
  · change (if mv then T.h else upd T.h (v, f) (some ⟨v, f, d, e, T.g (v, f) + 1, mv⟩)) (x.vol, x.frag) = some a at ha
    cases mv
    · simp only [Bool.false_eq_true, if_false] at ha
      by_cases q : (x.vol, x.frag) = (v, f)
      · rw [q] at h1 ha; rw [upd_same] at ha; cases ha; show T.g (v, f) + 1 ≠ x.gen; omega
      · rw [upd_other _ _ q] at ha; exact h.hx a ha
    · exact h.hx a ha
  · change (if mv then upd T.m (v, f) (some ⟨v, f, d, e, T.g (v, f) + 1, mv⟩) else T.m) (x.vol, x.frag) = some b at hb
    cases mv
    · exact h.mx b hb
    · simp only [if_true] at hb
      by_cases q : (x.vol, x.frag) = (v, f)
      · rw [q] at h1 hb; rw [upd_same] at hb; cases hb; show T.g (v, f) + 1 ≠ x.gen; omega
      · rw [upd_other _ _ q] at hb; exact h.mx b hb
theorem Ended.place (h : Ended T x) (v f d e : Int) : Ended (placeF T v f d e).2 x := by
  unfold placeF
  split
  · split
    · exact h
    · exact h.add ..
  · exact h
theorem Ended.grant (h : Ended T x) (v f d e : Int) : Ended (grantF T v f d e).2 x := by
  unfold grantF
  split
  · split
    · exact h
    · exact h.add ..
  · exact h
theorem Ended.end (h : Ended T x) (v f : Int) : Ended (endF T v f).2 x := by
  unfold endF
  split
  · split
    · exact h
    · refine ⟨h.low, h.hi, h.hx, fun b hb => ?_⟩
      by_cases q : (x.vol, x.frag) = (v, f)
      · simp only [q, upd_same] at hb; cases hb
      · simp only [upd_other _ _ q] at hb; exact h.mx b hb
  · exact h
theorem Ended.commit (h : Ended T x) (hi : Inv N T) (v f : Int) : Ended (commitF T v f).2 x := by
  obtain ⟨y, n, T', he⟩ : ∃ x n T', commitF T v f = ((x, n), T') := ⟨_, _, _, rfl⟩
  rw [he]
  rcases commitF_ok hi he with ⟨_, l, h1, _, rfl⟩ | ⟨_, rfl, _⟩
  · refine ⟨h.low, h.hi, fun a ha => ?_, fun b hb => ?_⟩
    · by_cases q : (x.vol, x.frag) = (v, f)
      · simp only [q, upd_same] at ha; cases ha; exact h.mx l (by rw [q]; exact h1)
      · simp only [upd_other _ _ q] at ha; exact h.hx a ha
    · by_cases q : (x.vol, x.frag) = (v, f)
      · simp only [q, upd_same] at hb; cases hb
      · simp only [upd_other _ _ q] at hb; exact h.mx b hb
  · exact h

/-- one call of the law's second loop -/
def stepE (T : Tb) (o : Opc) : Tb :=
  if o.kind = 1 then (placeF T o.vol o.frag o.drive o.ext).2 else if o.kind = 2 then (grantF T o.vol o.frag o.drive o.ext).2 else if o.kind = 3 then (commitF T o.vol o.frag).2
  else if o.kind = 4 then (endF T o.vol o.frag).2 else T

/-- what the commit ends -/
theorem ended_commit (hi : Inv N T) {v f : Int} {T' : Tb} (he : commitF T v f = ((x, 0), T')) : Ended T' x ∧ x.vol = v ∧ x.frag = f := by
  rcases commitF_ok hi he with ⟨_, l, h1, h2, rfl⟩ | ⟨h, _⟩
  · obtain ⟨a1, a2, a3, a4⟩ := hi.hg _ x h2
    have hlt := hi.hm _ x l h2 h1
    simp only at a3 a4
    refine ⟨⟨a1, by rw [a3, a4]; exact a2, fun a ha => ?_, fun b hb => ?_⟩, a3, a4⟩
    · simp only [a3, a4, upd_same] at ha; cases ha; show l.gen ≠ x.gen; omega
    · simp only [a3, a4, upd_same] at hb; cases hb
  · exact absurd rfl h
/-- what the revocation ends -/
theorem ended_revoke (hi : Inv N T) (hd : Dr T) {v f : Int} {T' : Tb} (he : commitF T v f = ((x, 0), T')) (hf : fragB v f = true) :
    ∃ y, T'.h (v, f) = some y ∧ judgeF T' v f y.drive y.gen = 1 ∧ ∃ g T2 z T3, grantF T' v f 7 7 = ((g, 0), T2) ∧ endF T2 v f = ((z, 0), T3) ∧ z.mov = true ∧ Ended T3 z ∧ Inv (N + 1) T3 := by
  rcases commitF_ok hi he with ⟨_, l, h1, h2, hT⟩ | ⟨h, _⟩
  · have hi' : Inv N T' := by rw [hT]; exact hi.comm h1 _
    have hd' : Dr T' := by rw [hT]; exact hd.comm h1 x
    have eh : T'.h (v, f) = some { l with mov := false } := by rw [hT]; exact upd_same ..
    have em : T'.m (v, f) = none := by rw [hT]; exact upd_same ..
    clear hT
    have hdr := hd'.hd _ _ eh
    have hne : ¬ l.drive = 7 := by simp only at hdr; omega
    refine ⟨_, eh, ?_, T'.g (v, f) + 1, (addT T' ⟨v, f, 7, 7, 0, true⟩).2, ⟨v, f, 7, 7, T'.g (v, f) + 1, true⟩, (endF (addT T' ⟨v, f, 7, 7, 0, true⟩).2 v f).2, ?_, ?_, rfl, ?_, ?_⟩
    · unfold judgeF; rw [eh]; simp
    · unfold grantF
      rw [hf, eh, em, hd'.u7]
      have : extB 7 7 = true := by decide
      simp [this, hne]
      rfl
    · have : (addT T' ⟨v, f, 7, 7, 0, true⟩).2.m (v, f) = some ⟨v, f, 7, 7, T'.g (v, f) + 1, true⟩ := upd_same ..
      unfold endF
      rw [hf, this]
      rfl
    · have : (addT T' ⟨v, f, 7, 7, 0, true⟩).2.m (v, f) = some ⟨v, f, 7, 7, T'.g (v, f) + 1, true⟩ := upd_same ..
      have g0 := hi'.gs (v, f)
      have g1 := hi'.hg _ _ eh
      unfold endF
      rw [hf, this]
      refine ⟨by show 1 ≤ T'.g (v, f) + 1; omega, ?_, fun a ha => ?_, fun b hb => ?_⟩
      · show T'.g (v, f) + 1 ≤ upd T'.g (v, f) (T'.g (v, f) + 1) (v, f)
        rw [upd_same]; exact Int.le_refl _
      · change T'.h (v, f) = some a at ha
        rw [eh] at ha
        cases ha
        show l.gen ≠ T'.g (v, f) + 1
        have := g1.2.1
        simp only at this
        omega
      · change upd _ (v, f) none (v, f) = some b at hb
        rw [upd_same] at hb; cases hb
    · exact (hi'.addm v f 7 7 (by rw [eh]; rfl)).end v f
  · exact absurd rfl h
end
end Go.Proofs.Ytnhpjmjinchamaa
