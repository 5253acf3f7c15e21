/- The plain law: Place, Grant, Revoke, Commit, Advance and Version answer as the reference does. -/
import Derived.Test.YtnhpjmjinchamaaPl
set_option linter.unusedVariables false
set_option linter.unusedSimpArgs false
set_option linter.unnecessarySimpa false
namespace Go.Proofs.Ytnhpjmjinchamaa

variable {N : Nat} {T : Tb} {R : Rf}

theorem Rel.place (h : Rel N T R) (v f d x : Int) : (rplaceF R v f d x).1 = (placeF T v f d x).1 ∧ Rel (N + 1) (placeF T v f d x).2 (rplaceF R v f d x).2 := by
  unfold rplaceF placeF
  cases h1 : (fragB v f && extB d x) with
  | false => exact ⟨rfl, h.mono (Nat.le_succ N)⟩
  | true =>
    obtain ⟨hf, he⟩ := Bool.and_eq_true_iff.1 h1
    simp only [if_true]
    rw [h.find, h.isSome, show ofM T false = T.h from rfl, Bool.or_comm]
    cases h2 : ((T.h (v, f)).isSome || (T.u (d, x)).isSome) with
    | true => exact ⟨rfl, h.mono (Nat.le_succ N)⟩
    | false =>
      obtain ⟨h3, h4⟩ := Bool.or_eq_false_iff.1 h2
      simp only [Bool.false_eq_true, if_false]
      refine ⟨?_, h.add hf he (by simpa using h4) (by simpa [ofM] using h3) (fun e => by cases e)⟩
      rw [← h.gg]
      rfl

theorem Rel.grant (h : Rel N T R) (v f d x : Int) : (rgrantF R v f d x).1 = (grantF T v f d x).1 ∧ Rel (N + 1) (grantF T v f d x).2 (rgrantF R v f d x).2 := by
  unfold rgrantF grantF
  cases h1 : (fragB v f && extB d x) with
  | false => exact ⟨rfl, h.mono (Nat.le_succ N)⟩
  | true =>
    obtain ⟨hf, he⟩ := Bool.and_eq_true_iff.1 h1
    simp only [if_true]
    rw [h.find, h.isSome, show ofM T true = T.m from rfl]
    cases ho : T.h (v, f) with
    | none =>
      rw [h.findN_none (m := false) ho]
      simp only [Option.isSome_none, Bool.not_false, Bool.true_or]
      exact ⟨rfl, h.mono (Nat.le_succ N)⟩
    | some l =>
      obtain ⟨X, C, hXC, hN, _⟩ := h.split (m := false) ho
      rw [hN]
      have e1 : decide ((X.length : Int) < 0) = false := by simp
      have e2 : R.L.getD ((X.length : Int)).toNat noL = l := by rw [hXC]; simp
      rw [e1, e2]
      simp only [Option.isSome_some, Bool.not_true, Bool.false_or, Option.getD_some]
      cases h2 : ((T.m (v, f)).isSome || l.drive == d || (T.u (d, x)).isSome) with
      | true => exact ⟨rfl, h.mono (Nat.le_succ N)⟩
      | false =>
        obtain ⟨h3, h4⟩ := Bool.or_eq_false_iff.1 h2
        obtain ⟨h5, _⟩ := Bool.or_eq_false_iff.1 h3
        simp only [Bool.false_eq_true, if_false]
        refine ⟨?_, h.add hf he (by simpa using h4) (by simpa [ofM] using h5) (fun _ => by rw [ho]; rfl)⟩
        rw [← h.gg]
        rfl

theorem before_self (a : Ls) : beforeB a a = false := by
  cases hb : beforeB a a with
  | false => rfl
  | true => exact absurd (before_not hb rfl rfl rfl) id

/-- the moving lease taken away -/
theorem Rel.drop (h : Rel N T R) {v f : Int} {l : Ls} {X C : List Ls} (hl : T.m (v, f) = some l) (hXC : R.L = X ++ l :: C) (hX : ∀ y ∈ X, beforeB y l = true) (hC : ∀ y ∈ C, beforeB l y = true) :
    Rel N { T with m := upd T.m (v, f) none, u := upd T.u (l.drive, l.ext) none } { R with L := X ++ C } := by
  obtain ⟨l1, l2, l3, l4⟩ := (h.mm v f l).1 hl
  have hlX : l ∉ X := fun hm => by have := hX l hm; rw [before_self] at this; cases this
  have hlC : l ∉ C := fun hm => by have := hC l hm; rw [before_self] at this; cases this
  have hmem : ∀ y, y ∈ X ++ C ↔ y ∈ R.L ∧ y ≠ l := fun y => by
    rw [hXC]
    simp only [List.mem_append, List.mem_cons]
    constructor
    · rintro (a | a)
      · exact ⟨.inl a, fun e => hlX (e ▸ a)⟩
      · exact ⟨.inr (.inr a), fun e => hlC (e ▸ a)⟩
    · rintro ⟨a | a | a, b⟩
      · exact .inl a
      · exact absurd a b
      · exact .inr a
  have hsub : ∀ y ∈ X ++ C, y ∈ R.L := fun y hy => ((hmem y).1 hy).1
  refine ⟨fun v' f' y => ?_, fun v' f' y => ?_, fun d' e' y => ?_, h.gg, h.term, h.cnt, h.t0, h.t1, h.c0, h.c1, ?_, fun y hy hm => h.home y (hsub y hy) hm, fun y hy => h.rng y (hsub y hy), h.gens, h.gout, fun y hy => h.glen y (hsub y hy), ?_⟩
  · show T.h (v', f') = some y ↔ y ∈ X ++ C ∧ _
    rw [h.hh, hmem]
    constructor
    · rintro ⟨a, b⟩; exact ⟨⟨a, fun e => by rw [e, l4] at b; cases b.2.2⟩, b⟩
    · rintro ⟨⟨a, _⟩, b⟩; exact ⟨a, b⟩
  · show upd T.m (v, f) none (v', f') = some y ↔ y ∈ X ++ C ∧ _
    rw [hmem]
    by_cases q : (v', f') = (v, f)
    · cases q
      rw [upd_same]
      constructor
      · rintro h'; cases h'
      · rintro ⟨⟨a, a'⟩, b⟩
        have := (h.mm v f y).2 ⟨a, b⟩
        rw [hl] at this
        exact absurd (Option.some.inj this).symm a'
    · rw [upd_other _ _ q, h.mm]
      constructor
      · rintro ⟨a, b⟩; exact ⟨⟨a, fun e => q (by rw [← b.1, ← b.2.1, e, l2, l3])⟩, b⟩
      · rintro ⟨⟨a, _⟩, b⟩; exact ⟨a, b⟩
  · show upd T.u (l.drive, l.ext) none (d', e') = some y ↔ y ∈ X ++ C ∧ _
    rw [hmem]
    by_cases q : (d', e') = (l.drive, l.ext)
    · cases q
      rw [upd_same]
      constructor
      · rintro h'; cases h'
      · rintro ⟨⟨a, a'⟩, b⟩
        have h1 := (h.uu l.drive l.ext y).2 ⟨a, b⟩
        have h2 := (h.uu l.drive l.ext l).2 ⟨l1, rfl, rfl⟩
        rw [h2] at h1
        exact absurd (Option.some.inj h1).symm a'
    · rw [upd_other _ _ q, h.uu]
      constructor
      · rintro ⟨a, b⟩; exact ⟨⟨a, fun e => q (by rw [← b.1, ← b.2, e])⟩, b⟩
      · rintro ⟨⟨a, _⟩, b⟩; exact ⟨a, b⟩
  · have := h.srt
    unfold Srt at this
    rw [hXC] at this
    refine List.Pairwise.sublist ?_ this
    exact List.Sublist.append (List.Sublist.refl X) (List.sublist_cons_self l C)
  · have := h.len
    rw [hXC] at this
    show (X ++ C).length ≤ N
    simp at this ⊢
    omega

theorem cut_at (X C : List Ls) (l : Ls) : (X ++ l :: C).take X.length ++ (X ++ l :: C).drop (X.length + 1) = X ++ C := by
  rw [List.take_left]
  congr 1
  rw [show X.length + 1 = X.length + 1 from rfl, List.drop_append]
  simp

theorem Rel.revoke (h : Rel N T R) (v f : Int) : (rrevokeF R v f).1 = (endF T v f).1 ∧ Rel N (endF T v f).2 (rrevokeF R v f).2 := by
  unfold rrevokeF endF
  cases h1 : fragB v f with
  | false => exact ⟨rfl, h⟩
  | true =>
    simp only [if_true]
    cases hm : T.m (v, f) with
    | none =>
      rw [h.findN_none (m := true) hm]
      exact ⟨rfl, h⟩
    | some l =>
      obtain ⟨X, C, hXC, hN, hX, hC⟩ := h.split (m := true) hm
      rw [hN, if_neg (by omega)]
      have e2 : R.L.getD ((X.length : Int)).toNat noL = l := by rw [hXC]; simp
      rw [e2]
      refine ⟨rfl, ?_⟩
      have e3 : cutR R ((X.length : Int)).toNat = { R with L := X ++ C } := by
        unfold cutR
        rw [Int.toNat_natCast, hXC, cut_at]
      rw [e3]
      exact h.drop hm hXC hX hC

/-- the home stands right before the copy in motion -/
theorem Rel.home_at (h : Rel N T R) {v f : Int} {l : Ls} {X C : List Ls} (hl : T.m (v, f) = some l) (hXC : R.L = X ++ l :: C) (hX : ∀ y ∈ X, beforeB y l = true) (hC : ∀ y ∈ C, beforeB l y = true) :
    ∃ X' h0, X = X' ++ [h0] ∧ T.h (v, f) = some h0 := by
  obtain ⟨l1, l2, l3, l4⟩ := (h.mm v f l).1 hl
  have hs := h.home l l1 l4
  rw [l2, l3] at hs
  obtain ⟨h0, hh0⟩ := Option.isSome_iff_exists.1 hs
  obtain ⟨k1, k2, k3, k4⟩ := (h.hh v f h0).1 hh0
  have hmX : h0 ∈ X := by
    rw [hXC] at k1
    rcases List.mem_append.1 k1 with a | a
    · exact a
    · rcases List.mem_cons.1 a with a | a
      · rw [a, l4] at k4; cases k4
      · have := (before_iff _ _).1 (hC h0 a)
        rcases this with q | ⟨_, q | ⟨_, q1, q2⟩⟩
        · omega
        · omega
        · rw [l4] at q1; cases q1
  obtain ⟨A, D, hAD⟩ := List.append_of_mem hmX
  cases D with
  | nil => exact ⟨A, h0, hAD, hh0⟩
  | cons b D =>
    exfalso
    have hsrt := h.srt
    unfold Srt at hsrt
    rw [hXC, hAD, List.append_assoc, List.pairwise_append] at hsrt
    have h5 := (List.pairwise_cons.1 hsrt.2.1).1 b (by simp)
    have h6 := hX b (by rw [hAD]; simp)
    rw [before_iff] at h5 h6
    rcases h5 with q | ⟨q0, q | ⟨q, q1, q2⟩⟩ <;> rcases h6 with r | ⟨r0, r | ⟨r, r1, r2⟩⟩
    · omega
    · omega
    · omega
    · omega
    · omega
    · omega
    · omega
    · omega
    · rw [q2] at r1; cases r1

theorem Rel.commit (h : Rel N T R) (v f : Int) : (rcommitF R v f).1 = (commitF T v f).1 ∧ Rel N (commitF T v f).2 (rcommitF R v f).2 ∧ (fragB v f = true → findN (isF v f true) R.L ≠ 0) := by
  unfold rcommitF commitF
  cases h1 : fragB v f with
  | false =>
    have e : endF T v f = ((noL, 5), T) := by unfold endF; rw [h1]; rfl
    rw [e]
    exact ⟨rfl, h, fun q => by cases q⟩
  | true =>
    simp only [if_true]
    cases hm : T.m (v, f) with
    | none =>
      have e : endF T v f = ((noL, 110), T) := by unfold endF; rw [h1, hm]; rfl
      rw [e, h.findN_none (m := true) hm]
      exact ⟨rfl, h, fun _ => by decide⟩
    | some l =>
      obtain ⟨X, C, hXC, hN, hX, hC⟩ := h.split (m := true) hm
      obtain ⟨X', h0, rfl, hh0⟩ := h.home_at hm hXC hX hC
      obtain ⟨l1, l2, l3, l4⟩ := (h.mm v f l).1 hm
      obtain ⟨k1, k2, k3, k4⟩ := (h.hh v f h0).1 hh0
      have e : endF T v f = ((l, 0), { T with m := upd T.m (v, f) none, u := upd T.u (l.drive, l.ext) none }) := by unfold endF; rw [h1, hm]; rfl
      have hlen : (X' ++ [h0]).length = X'.length + 1 := by simp
      rw [e, hN, hlen]
      have hgd : R.L.getD (X'.length + 1) noL = l := by rw [hXC]; simp
      have hset : R.L.set (X'.length + 1) { l with mov := false } = X' ++ h0 :: { l with mov := false } :: C := by
        rw [hXC, List.append_assoc, List.set_append_right _ _ (by omega)]
        simp
      have e5 : (((X'.length + 1 : Nat) : Int)).toNat = X'.length + 1 := by omega
      rw [if_neg (by omega), if_pos rfl]
      simp only [e5, hgd, hset, hh0, Option.getD_some]
      refine ⟨?_, ?_, fun _ => by omega⟩
      · simp
      have e6 : cutR { R with L := X' ++ h0 :: { l with mov := false } :: C } (X'.length + 1 - 1) = { R with L := X' ++ { l with mov := false } :: C } := by
        unfold cutR
        rw [Nat.add_sub_cancel]
        congr 1
        exact cut_at X' _ h0
      rw [e6]
      obtain ⟨l', hl'⟩ : ∃ l' : Ls, l' = { l with mov := false } := ⟨_, rfl⟩
      rw [← hl']
      have p1 : l'.vol = v := by rw [hl']; exact l2
      have p2 : l'.frag = f := by rw [hl']; exact l3
      have p3 : l'.mov = false := by rw [hl']
      have p4 : l'.drive = l.drive := by rw [hl']
      have p5 : l'.ext = l.ext := by rw [hl']
      have p6 : l'.gen = l.gen := by rw [hl']
      have hS := h.srt
      unfold Srt at hS
      rw [hXC, List.append_assoc, List.pairwise_append] at hS
      obtain ⟨s1, s2, s3⟩ := hS
      obtain ⟨s4, s5⟩ := List.pairwise_cons.1 s2
      obtain ⟨s6, s7⟩ := List.pairwise_cons.1 s5
      have x0 : ∀ y ∈ X', beforeB y h0 = true := fun y hy => s3 y hy h0 (by simp)
      have x1 : ∀ y ∈ X', beforeB y l = true := fun y hy => s3 y hy l (by simp)
      have z0 : ∀ y ∈ C, beforeB h0 y = true := fun y hy => s4 y (by simp [hy])
      have n1 : l ∉ X' := fun q => by have := x1 l q; rw [before_self] at this; cases this
      have n2 : h0 ∉ X' := fun q => by have := x0 h0 q; rw [before_self] at this; cases this
      have n3 : l ∉ C := fun q => by have := s6 l q; rw [before_self] at this; cases this
      have n4 : h0 ∉ C := fun q => by have := z0 h0 q; rw [before_self] at this; cases this
      have hmem : ∀ y, y ∈ X' ++ l' :: C ↔ y = l' ∨ y ∈ R.L ∧ y ≠ l ∧ y ≠ h0 := fun y => by
        rw [hXC]
        simp only [List.mem_append, List.mem_cons, List.mem_singleton]
        constructor
        · rintro (a | a | a)
          · exact .inr ⟨.inl (.inl a), fun e => n1 (e ▸ a), fun e => n2 (e ▸ a)⟩
          · exact .inl a
          · exact .inr ⟨.inr (.inr a), fun e => n3 (e ▸ a), fun e => n4 (e ▸ a)⟩
        · rintro (a | ⟨(a | a) | a | a, b, c⟩)
          · exact .inr (.inl a)
          · exact .inl a
          · exact absurd (by simpa using a) c
          · exact absurd a b
          · exact .inr (.inr a)
      have key : ∀ y : Ls, beforeB l' y = beforeB { h0 with drive := h0.drive } y ∧ beforeB y l' = beforeB y h0 := fun y => by
        unfold beforeB
        rw [p1, p2, p3, k2, k3, k4]
        exact ⟨rfl, rfl⟩
      have ul := (h.uu l.drive l.ext l).2 ⟨l1, rfl, rfl⟩
      have u0 := (h.uu h0.drive h0.ext h0).2 ⟨k1, rfl, rfl⟩
      refine ⟨fun v' f' y => ?_, fun v' f' y => ?_, fun d' e' y => ?_, h.gg, h.term, h.cnt, h.t0, h.t1, h.c0, h.c1, ?_, fun y hy hym => ?_, fun y hy => ?_, h.gens, h.gout, fun y hy => ?_, ?_⟩
      · show upd T.h (v, f) (some l') (v', f') = some y ↔ y ∈ X' ++ l' :: C ∧ _
        rw [hmem]
        by_cases q : (v', f') = (v, f)
        · cases q
          rw [upd_same]
          constructor
          · rintro h'; cases h'; exact ⟨.inl rfl, p1, p2, p3⟩
          · rintro ⟨rfl | ⟨a, b, c⟩, d⟩
            · rfl
            · have := (h.hh v f y).2 ⟨a, d⟩
              rw [hh0] at this
              exact absurd (Option.some.inj this).symm c
        · rw [upd_other _ _ q, h.hh]
          constructor
          · rintro ⟨a, b⟩; exact ⟨.inr ⟨a, fun e => (by rw [e, l4] at b; cases b.2.2), fun e => q (by rw [← b.1, ← b.2.1, e, k2, k3])⟩, b⟩
          · rintro ⟨rfl | ⟨a, _⟩, b⟩
            · exact absurd (by rw [← b.1, ← b.2.1, p1, p2]) q
            · exact ⟨a, b⟩
      · show upd T.m (v, f) none (v', f') = some y ↔ y ∈ X' ++ l' :: C ∧ _
        rw [hmem]
        by_cases q : (v', f') = (v, f)
        · cases q
          rw [upd_same]
          constructor
          · rintro h'; cases h'
          · rintro ⟨rfl | ⟨a, b, c⟩, d⟩
            · rw [p3] at d; cases d.2.2
            · have := (h.mm v f y).2 ⟨a, d⟩
              rw [hm] at this
              exact absurd (Option.some.inj this).symm b
        · rw [upd_other _ _ q, h.mm]
          constructor
          · rintro ⟨a, b⟩; exact ⟨.inr ⟨a, fun e => q (by rw [← b.1, ← b.2.1, e, l2, l3]), fun e => (by rw [e, k4] at b; cases b.2.2)⟩, b⟩
          · rintro ⟨rfl | ⟨a, _⟩, b⟩
            · rw [p3] at b; cases b.2.2
            · exact ⟨a, b⟩
      · show upd (upd (upd T.u (l.drive, l.ext) none) (h0.drive, h0.ext) none) (l.drive, l.ext) (some l') (d', e') = some y ↔ y ∈ X' ++ l' :: C ∧ _
        rw [hmem]
        by_cases q : (d', e') = (l.drive, l.ext)
        · cases q
          rw [upd_same]
          constructor
          · rintro h'; cases h'; exact ⟨.inl rfl, p4, p5⟩
          · rintro ⟨rfl | ⟨a, b, c⟩, d⟩
            · rfl
            · have := (h.uu l.drive l.ext y).2 ⟨a, d⟩
              rw [ul] at this
              exact absurd (Option.some.inj this).symm b
        · rw [upd_other _ _ q]
          by_cases r : (d', e') = (h0.drive, h0.ext)
          · rw [r, upd_same]
            cases r
            constructor
            · rintro h'; cases h'
            · rintro ⟨rfl | ⟨a, b, c⟩, d⟩
              · exact absurd (by rw [← d.1, ← d.2, p4, p5]) q
              · have := (h.uu h0.drive h0.ext y).2 ⟨a, d⟩
                rw [u0] at this
                exact absurd (Option.some.inj this).symm c
          · rw [upd_other _ _ r, upd_other _ _ q, h.uu]
            constructor
            · rintro ⟨a, b⟩; exact ⟨.inr ⟨a, fun e => q (by rw [← b.1, ← b.2, e]), fun e => r (by rw [← b.1, ← b.2, e])⟩, b⟩
            · rintro ⟨rfl | ⟨a, _⟩, b⟩
              · exact absurd (by rw [← b.1, ← b.2, p4, p5]) q
              · exact ⟨a, b⟩
      · show Srt (X' ++ l' :: C)
        unfold Srt
        rw [List.pairwise_append]
        refine ⟨s1, List.Pairwise.cons (fun y hy => ?_) s7, fun y hy z hz => ?_⟩
        · rw [(key y).1]; exact z0 y hy
        · rcases List.mem_cons.1 hz with rfl | hz
          · rw [(key y).2]; exact x0 y hy
          · exact s3 y hy z (by simp [hz])
      · show (upd T.h (v, f) (some l') (y.vol, y.frag)).isSome = true
        unfold upd
        split
        · rfl
        · rcases (hmem y).1 hy with rfl | ⟨a, _⟩
          · rw [p3] at hym; cases hym
          · exact h.home y a hym
      · rcases (hmem y).1 hy with rfl | ⟨a, _⟩
        · rw [p1, p2, p4, p5, ← l2, ← l3]; exact h.rng l l1
        · exact h.rng y a
      · rcases (hmem y).1 hy with rfl | ⟨a, _⟩
        · rw [p1, p2, p6, ← l2, ← l3]; exact h.glen l l1
        · exact h.glen y a
      · have := h.len
        rw [hXC] at this
        show (X' ++ l' :: C).length ≤ N
        simp at this ⊢
        omega

theorem Rel.adv (h : Rel N T R) (t : Int) : (radvF R t).1 = (advF T t).1 ∧ Rel N (advF T t).2 (radvF R t).2 := by
  unfold radvF advF
  rw [← h.term]
  split
  · exact ⟨rfl, h⟩
  · split
    · exact ⟨rfl, h⟩
    · exact ⟨rfl, h.hh, h.mm, h.uu, h.gg, rfl, rfl, by show 0 ≤ t; omega, by show t ≤ _; omega, by show (0 : Int) ≤ 0; omega, by show (0 : Int) ≤ _; omega, h.srt, h.home, h.rng, h.gens, h.gout, h.glen, h.len⟩
theorem Rel.ver (h : Rel N T R) : (rverF R).1 = (verF T).1 ∧ Rel N (verF T).2 (rverF R).2 := by
  unfold rverF verF
  rw [← h.term, ← h.cnt]
  have c0 := h.c0
  have c1 := h.c1
  split
  · exact ⟨rfl, h⟩
  · by_cases q : T.count = 1048575
    · rw [if_pos q, if_pos (by omega)]
      exact ⟨rfl, h⟩
    · rw [if_neg q, if_neg (by omega)]
      exact ⟨rfl, h.hh, h.mm, h.uu, h.gg, rfl, rfl, h.t0, h.t1, by show 0 ≤ T.count + 1; omega, by show T.count + 1 ≤ _; omega, h.srt, h.home, h.rng, h.gens, h.gout, h.glen, h.len⟩
end Go.Proofs.Ytnhpjmjinchamaa
