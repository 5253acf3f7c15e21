/- The plain law of LeaseEnds: a lease that ended is old for good. -/
import Derived.Test.YtnhpjmjinchamaaDb
set_option linter.unusedVariables false
set_option linter.unusedSimpArgs false
set_option linter.unnecessarySimpa false
namespace Go.Proofs.Ytnhpjmjinchamaa

structure Inv (N : Nat) (T : Tb) : Prop where
  gs : ∀ k, 0 ≤ T.g k ∧ T.g k ≤ N
  hg : ∀ k a, T.h k = some a → 1 ≤ a.gen ∧ a.gen ≤ T.g k ∧ a.vol = k.1 ∧ a.frag = k.2
  mg : ∀ k b, T.m k = some b → 1 ≤ b.gen ∧ b.gen ≤ T.g k ∧ b.vol = k.1 ∧ b.frag = k.2
  hm : ∀ k a b, T.h k = some a → T.m k = some b → a.gen < b.gen
  mh : ∀ k, T.h k = none → T.m k = none
structure Dr (T : Tb) : Prop where
  hd : ∀ k a, T.h k = some a → a.drive < 5
  md : ∀ k b, T.m k = some b → b.drive < 5
  u7 : T.u (7, 7) = none
structure Ended (T : Tb) (x : Ls) : Prop where
  low : 1 ≤ x.gen
  hi : x.gen ≤ T.g (x.vol, x.frag)
  hx : ∀ a, T.h (x.vol, x.frag) = some a → a.gen ≠ x.gen
  mx : ∀ b, T.m (x.vol, x.frag) = some b → b.gen ≠ x.gen

theorem Inv.start : Inv 0 noT := ⟨fun _ => by simp [noT], by simp [noT], by simp [noT], by simp [noT], by simp [noT]⟩
theorem Dr.start : Dr noT := ⟨by simp [noT], by simp [noT], rfl⟩

theorem Ended.judge {T : Tb} {x : Ls} (h : Ended T x) : judgeF T x.vol x.frag x.drive x.gen = 3 := by
  unfold judgeF
  have h1 : ((T.h (x.vol, x.frag)).isSome && ((T.h (x.vol, x.frag)).getD noL).drive == x.drive && ((T.h (x.vol, x.frag)).getD noL).gen == x.gen) = false := by
    cases e : T.h (x.vol, x.frag) with
    | none => simp
    | some a => have := h.hx a e; simp [this]
  have h2 : ((T.m (x.vol, x.frag)).isSome && ((T.m (x.vol, x.frag)).getD noL).drive == x.drive && ((T.m (x.vol, x.frag)).getD noL).gen == x.gen) = false := by
    cases e : T.m (x.vol, x.frag) with
    | none => simp
    | some a => have := h.mx a e; simp [this]
  rw [h1, h2]
  have := h.low
  have := h.hi
  simp [h.low, h.hi]

section
variable {N : Nat} {T : Tb}
theorem Inv.mono (h : Inv N T) {M : Nat} (hM : N ≤ M) : Inv M T := ⟨fun k => by have := h.gs k; omega, h.hg, h.mg, h.hm, h.mh⟩

theorem Inv.addh (h : Inv N T) (v f d x : Int) (hn : T.h (v, f) = none) : Inv (N + 1) (addT T ⟨v, f, d, x, 0, false⟩).2 := by
  have e : (addT T ⟨v, f, d, x, 0, false⟩).2 = { T with g := upd T.g (v, f) (T.g (v, f) + 1), h := upd T.h (v, f) (some ⟨v, f, d, x, T.g (v, f) + 1, false⟩), u := upd T.u (d, x) (some ⟨v, f, d, x, T.g (v, f) + 1, false⟩) } := rfl
  have hm0 := h.mh _ hn
  have g0 := h.gs (v, f)
  rw [e]
  refine ⟨fun k => ?_, fun k a ha => ?_, fun k a ha => ?_, fun k a b ha hb => ?_, fun k ha => ?_⟩ <;> by_cases q : k = (v, f)
  · subst q; simp only [upd_same]; omega
  · simp only [upd_other _ _ q]; have := h.gs k; omega
  · subst q; simp only [upd_same] at ha ⊢; cases ha; exact ⟨by simp; omega, by simp, rfl, rfl⟩
  · simp only [upd_other _ _ q] at ha ⊢; exact h.hg k a ha
  · subst q; simp only at ha; rw [hm0] at ha; cases ha
  · simp only [upd_other _ _ q] at ha ⊢; exact h.mg k a ha
  · subst q; simp only at hb; rw [hm0] at hb; cases hb
  · simp only [upd_other _ _ q] at ha hb; exact h.hm k a b ha hb
  · subst q; simp only [upd_same] at ha; cases ha
  · simp only [upd_other _ _ q] at ha ⊢; exact h.mh k ha
theorem Inv.addm (h : Inv N T) (v f d x : Int) (hn : (T.h (v, f)).isSome = true) : Inv (N + 1) (addT T ⟨v, f, d, x, 0, true⟩).2 := by
  have e : (addT T ⟨v, f, d, x, 0, true⟩).2 = { T with g := upd T.g (v, f) (T.g (v, f) + 1), m := upd T.m (v, f) (some ⟨v, f, d, x, T.g (v, f) + 1, true⟩), u := upd T.u (d, x) (some ⟨v, f, d, x, T.g (v, f) + 1, true⟩) } := rfl
  have g0 := h.gs (v, f)
  rw [e]
  refine ⟨fun k => ?_, fun k a ha => ?_, fun k a ha => ?_, fun k a b ha hb => ?_, fun k ha => ?_⟩ <;> by_cases q : k = (v, f)
  · subst q; simp only [upd_same]; omega
  · simp only [upd_other _ _ q]; have := h.gs k; omega
  · subst q; simp only [upd_same] at ha ⊢; have := h.hg _ a ha; exact ⟨this.1, by omega, this.2.2⟩
  · simp only [upd_other _ _ q] at ha ⊢; exact h.hg k a ha
  · subst q; simp only [upd_same] at ha ⊢; cases ha; exact ⟨by simp; omega, by simp, rfl, rfl⟩
  · simp only [upd_other _ _ q] at ha ⊢; exact h.mg k a ha
  · subst q; simp only [upd_same] at ha hb; cases hb; have := h.hg _ a ha; show a.gen < T.g (v, f) + 1; omega
  · simp only [upd_other _ _ q] at ha hb; exact h.hm k a b ha hb
  · subst q; simp only at ha; rw [ha] at hn; cases hn
  · simp only [upd_other _ _ q] at ha ⊢; exact h.mh k ha
theorem Inv.end (h : Inv N T) (v f : Int) : Inv N (endF T v f).2 := by
  unfold endF
  split
  · split
    · exact h
    · refine ⟨h.gs, h.hg, fun k a ha => ?_, fun k a b ha hb => ?_, fun k ha => ?_⟩ <;> by_cases q : k = (v, f)
      · subst q; simp only [upd_same] at ha; cases ha
      · simp only [upd_other _ _ q] at ha; exact h.mg k a ha
      · subst q; simp only [upd_same] at hb; cases hb
      · simp only [upd_other _ _ q] at hb; exact h.hm k a b ha hb
      · subst q; simp only [upd_same]
      · simp only [upd_other _ _ q]; exact h.mh k ha
  · exact h
theorem endF_ok {v f : Int} {l : Ls} {n : Int} (he : (endF T v f).1 = (l, n)) : (n = 0 ∧ T.m (v, f) = some l ∧ (endF T v f).2 = { T with m := upd T.m (v, f) none, u := upd T.u (l.drive, l.ext) none }) ∨ (n ≠ 0 ∧ (endF T v f).2 = T ∧ (fragB v f = true → n = 110)) := by
  unfold endF at he ⊢
  split at he
  · rename_i hf
    rw [if_pos hf]
    split at he
    · rename_i hm
      cases he
      rw [hm]
      exact .inr ⟨by decide, rfl, fun _ => rfl⟩
    · rename_i l' hm
      cases he
      rw [hm]
      exact .inl ⟨rfl, rfl, rfl⟩
  · rename_i hf
    rw [if_neg hf]
    cases he
    exact .inr ⟨by decide, rfl, fun h => absurd h hf⟩
theorem commitF_ok (h : Inv N T) {v f : Int} {x : Ls} {n : Int} {T' : Tb} (he : commitF T v f = ((x, n), T')) : (n = 0 ∧ ∃ l, T.m (v, f) = some l ∧ T.h (v, f) = some x ∧ T' = { T with m := upd T.m (v, f) none, h := upd T.h (v, f) (some { l with mov := false }), u := upd (upd (upd T.u (l.drive, l.ext) none) (x.drive, x.ext) none) (l.drive, l.ext) (some { l with mov := false }) }) ∨ (n ≠ 0 ∧ T' = T ∧ (fragB v f = true → n = 110)) := by
  obtain ⟨l, m, hl⟩ : ∃ l m, (endF T v f).1 = (l, m) := ⟨_, _, rfl⟩
  unfold commitF at he
  rcases endF_ok hl with ⟨rfl, h1, h2⟩ | ⟨h1, h2, h3⟩
  · rw [hl, h2] at he
    simp only [if_true] at he
    cases hh : T.h (v, f) with
    | none => rw [h.mh _ hh] at h1; cases h1
    | some a =>
      rw [hh] at he
      cases he
      exact .inl ⟨rfl, l, h1, rfl, rfl⟩
  · rw [hl, h2] at he
    simp only [if_neg h1] at he
    cases he
    exact .inr ⟨h1, rfl, h3⟩
theorem Inv.comm (h : Inv N T) {v f : Int} {l : Ls} (hl : T.m (v, f) = some l) (U : Pk → Option Ls) : Inv N { T with m := upd T.m (v, f) none, h := upd T.h (v, f) (some { l with mov := false }), u := U } := by
  have h0 := h.mg _ l hl
  refine ⟨h.gs, fun k a ha => ?_, fun k a ha => ?_, fun k a b ha hb => ?_, fun k ha => ?_⟩ <;> by_cases q : k = (v, f)
  · subst q; simp only [upd_same] at ha; cases ha; exact h0
  · simp only [upd_other _ _ q] at ha; exact h.hg k a ha
  · subst q; simp only [upd_same] at ha; cases ha
  · simp only [upd_other _ _ q] at ha; exact h.mg k a ha
  · subst q; simp only [upd_same] at hb; cases hb
  · simp only [upd_other _ _ q] at ha hb; exact h.hm k a b ha hb
  · subst q; simp only [upd_same]
  · simp only [upd_other _ _ q] at ha ⊢; exact h.mh k ha
theorem Inv.commit (h : Inv N T) (v f : Int) : Inv N (commitF T v f).2 := by
  obtain ⟨x, n, T', he⟩ : ∃ x n T', commitF T v f = ((x, n), T') := ⟨_, _, _, rfl⟩
  rw [he]
  rcases commitF_ok h he with ⟨_, l, h1, _, rfl⟩ | ⟨_, rfl, _⟩
  · exact h.comm h1 _
  · exact h
theorem Inv.place (h : Inv N T) (v f d x : Int) : Inv (N + 1) (placeF T v f d x).2 := by
  unfold placeF
  split
  · split
    · exact h.mono (by omega)
    · rename_i q
      refine h.addh v f d x ?_
      cases e : T.h (v, f) with
      | none => rfl
      | some a => rw [e] at q; simp at q
  · exact h.mono (by omega)
theorem Inv.grant (h : Inv N T) (v f d x : Int) : Inv (N + 1) (grantF T v f d x).2 := by
  unfold grantF
  split
  · split
    · exact h.mono (by omega)
    · rename_i q
      refine h.addm v f d x ?_
      cases e : T.h (v, f) with
      | none => rw [e] at q; simp at q
      | some a => rfl
  · exact h.mono (by omega)
end
end Go.Proofs.Ytnhpjmjinchamaa
