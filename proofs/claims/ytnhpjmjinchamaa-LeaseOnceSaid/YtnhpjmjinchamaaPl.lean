/- The plain law: the program's table and the reference's answer alike. -/
import Derived.Test.YtnhpjmjinchamaaRf
import Derived.Test.YtnhpjmjinchamaaRg
import Derived.Test.YtnhpjmjinchamaaTj
set_option linter.unusedVariables false
set_option linter.unusedSimpArgs false
set_option linter.unnecessarySimpa false
namespace Go.Proofs.Ytnhpjmjinchamaa

theorem before_iff (a b : Ls) : beforeB a b = true ↔ a.vol < b.vol ∨ a.vol = b.vol ∧ (a.frag < b.frag ∨ a.frag = b.frag ∧ a.mov = false ∧ b.mov = true) := by
  unfold beforeB
  by_cases h1 : a.vol = b.vol
  · by_cases h2 : a.frag = b.frag
    · simp [h1, h2]
    · simp [h1, h2]
  · simp [h1]
theorem before_trans {a b c : Ls} (h1 : beforeB a b = true) (h2 : beforeB b c = true) : beforeB a c = true := by
  rw [before_iff] at *
  rcases h1 with h1 | ⟨h1, h1' | ⟨h1', e1, e2⟩⟩ <;> rcases h2 with h2 | ⟨h2, h2' | ⟨h2', e3, e4⟩⟩
  · left; omega
  · left; omega
  · left; omega
  · left; omega
  · right; exact ⟨by omega, .inl (by omega)⟩
  · right; exact ⟨by omega, .inl (by omega)⟩
  · left; omega
  · right; exact ⟨by omega, .inl (by omega)⟩
  · rw [e2] at e3; cases e3
theorem before_not {a b : Ls} (h : beforeB a b = true) (h1 : a.vol = b.vol) (h2 : a.frag = b.frag) (h3 : a.mov = b.mov) : False := by
  rw [before_iff] at h
  rcases h with h | ⟨_, h | ⟨_, e1, e2⟩⟩
  · omega
  · omega
  · rw [e1, e2] at h3; cases h3
theorem before_total {a b : Ls} (h : ¬ (a.vol = b.vol ∧ a.frag = b.frag ∧ a.mov = b.mov)) (h' : beforeB a b = false) : beforeB b a = true := by
  have h2 : ¬ beforeB a b = true := by rw [h']; simp
  rw [before_iff] at h2 ⊢
  rcases Int.lt_trichotomy a.vol b.vol with q | q | q
  · exact absurd (.inl q) h2
  · rcases Int.lt_trichotomy a.frag b.frag with r | r | r
    · exact absurd (.inr ⟨q, .inl r⟩) h2
    · refine .inr ⟨q.symm, .inr ⟨r.symm, ?_⟩⟩
      cases ha : a.mov <;> cases hb : b.mov
      · exact absurd ⟨q, r, ha.trans hb.symm⟩ h
      · exact absurd (.inr ⟨q, .inr ⟨r, ha, hb⟩⟩) h2
      · simp
      · exact absurd ⟨q, r, ha.trans hb.symm⟩ h
    · exact .inr ⟨q.symm, .inl r⟩
  · exact .inl q

abbrev Srt (L : List Ls) : Prop := L.Pairwise fun a b => beforeB a b = true

theorem mem_insL (L : List Ls) (x y : Ls) : y ∈ insL L x ↔ y = x ∨ y ∈ L := by
  unfold insL
  have h : L.takeWhile (beforeB · x) ++ L.dropWhile (beforeB · x) = L := List.takeWhile_append_dropWhile
  conv => rhs; rw [← h]
  simp only [List.mem_append, List.mem_cons]
  constructor
  · rintro (h | h | h) <;> simp [h]
  · rintro (h | h | h) <;> simp [h]
theorem insL_len (L : List Ls) (x : Ls) : (insL L x).length = L.length + 1 := by
  unfold insL
  have h := congrArg List.length (List.takeWhile_append_dropWhile (p := (beforeB · x)) (l := L))
  rw [List.length_append] at h
  rw [List.length_append, List.length_cons]
  omega
theorem srt_insL {L : List Ls} {x : Ls} (h : Srt L) (hx : ∀ y ∈ L, ¬ (y.vol = x.vol ∧ y.frag = x.frag ∧ y.mov = x.mov)) : Srt (insL L x) := by
  induction L with
  | nil => simp [insL, Srt]
  | cons y L ih =>
    obtain ⟨h1, h2⟩ := List.pairwise_cons.1 h
    have ih' := ih h2 (fun z hz => hx z (List.mem_cons_of_mem _ hz))
    cases hb : beforeB y x with
    | true =>
      have e : insL (y :: L) x = y :: insL L x := by simp [insL, hb]
      rw [e]
      refine List.Pairwise.cons (fun z hz => ?_) ih'
      rcases (mem_insL L x z).1 hz with rfl | hz
      · exact hb
      · exact h1 z hz
    | false =>
      have e : insL (y :: L) x = x :: y :: L := by simp [insL, hb]
      rw [e]
      have hxy := before_total (hx y List.mem_cons_self) hb
      refine List.Pairwise.cons (fun z hz => ?_) h
      rcases List.mem_cons.1 hz with rfl | hz
      · exact hxy
      · exact before_trans hxy (h1 z hz)

structure Rel (N : Nat) (T : Tb) (R : Rf) : Prop where
  hh : ∀ v f l, T.h (v, f) = some l ↔ l ∈ R.L ∧ l.vol = v ∧ l.frag = f ∧ l.mov = false
  mm : ∀ v f l, T.m (v, f) = some l ↔ l ∈ R.L ∧ l.vol = v ∧ l.frag = f ∧ l.mov = true
  uu : ∀ d e l, T.u (d, e) = some l ↔ l ∈ R.L ∧ l.drive = d ∧ l.ext = e
  gg : T.g = R.G
  term : T.term = R.num
  cnt : T.count = R.cnt
  t0 : 0 ≤ T.term
  t1 : T.term ≤ 1048575
  c0 : 0 ≤ T.count
  c1 : T.count ≤ 1048575
  srt : Srt R.L
  home : ∀ l ∈ R.L, l.mov = true → (T.h (l.vol, l.frag)).isSome = true
  rng : ∀ l ∈ R.L, fragB l.vol l.frag = true ∧ extB l.drive l.ext = true
  gens : ∀ k, 0 ≤ T.g k ∧ T.g k ≤ N
  gout : ∀ v f, fragB v f = false → T.g (v, f) = 0
  glen : ∀ l ∈ R.L, 1 ≤ l.gen ∧ l.gen ≤ T.g (l.vol, l.frag)
  len : R.L.length ≤ N

def noR : Rf := ⟨fun _ => 0, [], 0, 0⟩
theorem Rel.start : Rel 0 noT noR :=
  ⟨by simp [noT, noR], by simp [noT, noR], by simp [noT, noR], rfl, rfl, rfl, by decide, by decide, by decide, by decide, List.Pairwise.nil, by simp [noR], by simp [noR], fun _ => by simp [noT], fun _ _ _ => rfl, by simp [noR], by simp [noR]⟩
theorem Rel.mono {N M : Nat} {T : Tb} {R : Rf} (h : Rel N T R) (hM : N ≤ M) : Rel M T R :=
  ⟨h.hh, h.mm, h.uu, h.gg, h.term, h.cnt, h.t0, h.t1, h.c0, h.c1, h.srt, h.home, h.rng, fun k => by have := h.gens k; omega, h.gout, h.glen, by have := h.len; omega⟩

section
variable {N : Nat} {T : Tb} {R : Rf}
theorem Rel.find (h : Rel N T R) (d e : Int) : R.L.find? (isU d e) = T.u (d, e) := by
  cases hu : T.u (d, e) with
  | none =>
    refine List.find?_eq_none.2 fun l hl hp => ?_
    unfold isU at hp
    simp at hp
    have := (h.uu d e l).2 ⟨hl, hp.1, hp.2⟩
    rw [hu] at this
    cases this
  | some l =>
    obtain ⟨h1, h2, h3⟩ := (h.uu d e l).1 hu
    cases hf : R.L.find? (isU d e) with
    | none =>
      have := List.find?_eq_none.1 hf l h1
      unfold isU at this
      simp [h2, h3] at this
    | some l' =>
      have hm := List.mem_of_find?_eq_some hf
      have hp := List.find?_some hf
      unfold isU at hp
      simp at hp
      have := (h.uu d e l').2 ⟨hm, hp.1, hp.2⟩
      rw [hu] at this
      exact this.symm
theorem isF_iff {v f : Int} {m : Bool} {l : Ls} : isF v f m l = true ↔ l.vol = v ∧ l.frag = f ∧ l.mov = m := by unfold isF; simp [and_assoc]
/-- what is asked by fragment and kind -/
def ofM (T : Tb) (m : Bool) : Pk → Option Ls := if m then T.m else T.h
theorem Rel.of (h : Rel N T R) (v f : Int) (m : Bool) (l : Ls) : ofM T m (v, f) = some l ↔ l ∈ R.L ∧ l.vol = v ∧ l.frag = f ∧ l.mov = m := by
  cases m
  · exact h.hh v f l
  · exact h.mm v f l
theorem Rel.findN_none (h : Rel N T R) {v f : Int} {m : Bool} (hn : ofM T m (v, f) = none) : findN (isF v f m) R.L = -1 := by
  refine Ytnhpjmjinchamaa.findN_none fun l hl => ?_
  cases hp : isF v f m l with
  | false => rfl
  | true =>
    have := (h.of v f m l).2 ⟨hl, isF_iff.1 hp⟩
    rw [hn] at this
    cases this
/-- where a lease stands -/
theorem Rel.split (h : Rel N T R) {v f : Int} {m : Bool} {l : Ls} (hl : ofM T m (v, f) = some l) : ∃ X C, R.L = X ++ l :: C ∧ findN (isF v f m) R.L = X.length ∧ (∀ y ∈ X, beforeB y l = true) ∧ (∀ y ∈ C, beforeB l y = true) := by
  obtain ⟨h1, h2, h3, h4⟩ := (h.of v f m l).1 hl
  obtain ⟨X, C, hXC⟩ := List.append_of_mem h1
  have hs := h.srt
  unfold Srt at hs
  rw [hXC, List.pairwise_append] at hs
  obtain ⟨s1, s2, s3⟩ := hs
  obtain ⟨s4, s5⟩ := List.pairwise_cons.1 s2
  have hX : ∀ y ∈ X, beforeB y l = true := fun y hy => s3 y hy l List.mem_cons_self
  refine ⟨X, C, hXC, ?_, hX, s4⟩
  refine findN_some (k := X.length) (l := l) (by rw [hXC]; simp) (isF_iff.2 ⟨h2, h3, h4⟩) fun j x hj hx => ?_
  have hxm : x ∈ X := by
    rw [hXC, List.getElem?_append_left hj] at hx
    exact List.mem_of_getElem? hx
  cases hp : isF v f m x with
  | false => rfl
  | true =>
    obtain ⟨e1, e2, e3⟩ := isF_iff.1 hp
    exact absurd (before_not (hX x hxm) (by omega) (by omega) (e3.trans h4.symm)) id
theorem Rel.isSome (h : Rel N T R) (v f : Int) (m : Bool) : decide (0 ≤ findN (isF v f m) R.L) = (ofM T m (v, f)).isSome := by
  cases ho : ofM T m (v, f) with
  | none => rw [h.findN_none ho]; rfl
  | some l =>
    obtain ⟨X, C, _, h2, _⟩ := h.split ho
    rw [h2]
    simp
theorem small_of (h : Rel N T R) (hN : N ≤ 900) : Small T := fun k => by have := h.gens k; omega
theorem smallR_of (h : Rel N T R) (hN : N ≤ 900) : SmallR R := ⟨fun k => by rw [← h.gg]; have := h.gens k; omega, by have := h.len; omega⟩

theorem frag_of {v f : Int} (h : fragB v f = true) : 0 ≤ v ∧ v < 12 ∧ 0 ≤ f ∧ f < 8 := by unfold fragB at h; simpa using h

/-- one lease more on both sides -/
theorem Rel.add (h : Rel N T R) {v f d e : Int} {mv : Bool} (hf : fragB v f = true) (he : extB d e = true) (hu : T.u (d, e) = none) (hn : ofM T mv (v, f) = none) (hm : mv = true → (T.h (v, f)).isSome = true) :
    Rel (N + 1) (addT T ⟨v, f, d, e, 0, mv⟩).2 (putR R ⟨v, f, d, e, 0, mv⟩) := by
  obtain ⟨x, hx⟩ : ∃ x : Ls, x = ⟨v, f, d, e, T.g (v, f) + 1, mv⟩ := ⟨_, rfl⟩
  have hxv : x.vol = v := by rw [hx]
  have hxf : x.frag = f := by rw [hx]
  have hxd : x.drive = d := by rw [hx]
  have hxe : x.ext = e := by rw [hx]
  have hxg : x.gen = T.g (v, f) + 1 := by rw [hx]
  have hxm : x.mov = mv := by rw [hx]
  have eL : (putR R ⟨v, f, d, e, 0, mv⟩).L = insL R.L x := by
    show insL R.L ⟨v, f, d, e, R.G (v, f) + 1, mv⟩ = _
    rw [← h.gg, hx]
  have hnew : ∀ y ∈ R.L, ¬ (y.vol = x.vol ∧ y.frag = x.frag ∧ y.mov = x.mov) := fun y hy hk => by
    have := (h.of v f mv y).2 ⟨hy, by omega, by omega, hk.2.2.trans hxm⟩
    rw [hn] at this
    cases this
  have hnu : ∀ y ∈ R.L, ¬ (y.drive = d ∧ y.ext = e) := fun y hy hk => by
    have := (h.uu d e y).2 ⟨hy, hk.1, hk.2⟩
    rw [hu] at this
    cases this
  have eT : (addT T ⟨v, f, d, e, 0, mv⟩).2 = { T with g := upd T.g (v, f) (T.g (v, f) + 1), h := if mv then T.h else upd T.h (v, f) (some x), m := if mv then upd T.m (v, f) (some x) else T.m, u := upd T.u (d, e) (some x) } := by rw [hx]; rfl
  rw [eT]
  refine ⟨fun v' f' l => ?_, fun v' f' l => ?_, fun d' e' l => ?_, ?_, h.term, h.cnt, h.t0, h.t1, h.c0, h.c1, ?_, fun l hl hlm => ?_, fun l hl => ?_, fun k => ?_, fun v' f' hb => ?_, fun l hl => ?_, ?_⟩
  · rw [eL, mem_insL]
    cases hmv : mv with
    | true =>
      simp only [if_true]
      rw [h.hh]
      constructor
      · rintro ⟨a, b⟩; exact ⟨.inr a, b⟩
      · rintro ⟨rfl | a, b⟩
        · rw [hxm, hmv] at b; cases b.2.2
        · exact ⟨a, b⟩
    | false =>
      simp only [Bool.false_eq_true, if_false]
      by_cases q : (v', f') = (v, f)
      · cases q
        rw [upd_same]
        constructor
        · rintro h'; cases h'; exact ⟨.inl rfl, hxv, hxf, hxm.trans hmv⟩
        · rintro ⟨rfl | a, b⟩
          · rfl
          · exact absurd ⟨b.1.trans hxv.symm, b.2.1.trans hxf.symm, b.2.2.trans (hxm.trans hmv).symm⟩ (hnew l a)
      · rw [upd_other _ _ q, h.hh]
        constructor
        · rintro ⟨a, b⟩; exact ⟨.inr a, b⟩
        · rintro ⟨rfl | a, b⟩
          · exact absurd (by rw [← b.1, ← b.2.1, hxv, hxf]) q
          · exact ⟨a, b⟩
  · rw [eL, mem_insL]
    cases hmv : mv with
    | false =>
      simp only [Bool.false_eq_true, if_false]
      rw [h.mm]
      constructor
      · rintro ⟨a, b⟩; exact ⟨.inr a, b⟩
      · rintro ⟨rfl | a, b⟩
        · rw [hxm, hmv] at b; cases b.2.2
        · exact ⟨a, b⟩
    | true =>
      simp only [if_true]
      by_cases q : (v', f') = (v, f)
      · cases q
        rw [upd_same]
        constructor
        · rintro h'; cases h'; exact ⟨.inl rfl, hxv, hxf, hxm.trans hmv⟩
        · rintro ⟨rfl | a, b⟩
          · rfl
          · exact absurd ⟨b.1.trans hxv.symm, b.2.1.trans hxf.symm, b.2.2.trans (hxm.trans hmv).symm⟩ (hnew l a)
      · rw [upd_other _ _ q, h.mm]
        constructor
        · rintro ⟨a, b⟩; exact ⟨.inr a, b⟩
        · rintro ⟨rfl | a, b⟩
          · exact absurd (by rw [← b.1, ← b.2.1, hxv, hxf]) q
          · exact ⟨a, b⟩
  · rw [eL, mem_insL]
    show upd T.u (d, e) (some x) (d', e') = some l ↔ _
    by_cases q : (d', e') = (d, e)
    · cases q
      rw [upd_same]
      constructor
      · rintro h'; cases h'; exact ⟨.inl rfl, hxd, hxe⟩
      · rintro ⟨rfl | a, b⟩
        · rfl
        · exact absurd b (hnu l a)
    · rw [upd_other _ _ q, h.uu]
      constructor
      · rintro ⟨a, b⟩; exact ⟨.inr a, b⟩
      · rintro ⟨rfl | a, b⟩
        · exact absurd (by rw [← b.1, ← b.2, hxd, hxe]) q
        · exact ⟨a, b⟩
  · show upd T.g (v, f) _ = upd R.G (v, f) _
    rw [← h.gg]
  · rw [eL]; exact srt_insL h.srt hnew
  · rw [eL] at hl
    have key : (T.h (l.vol, l.frag)).isSome = true := by
      rcases (mem_insL _ _ _).1 hl with rfl | hl
      · rw [hxv, hxf]; exact hm (hxm.symm.trans hlm)
      · exact h.home l hl hlm
    show ((if mv then T.h else upd T.h (v, f) (some x)) (l.vol, l.frag)).isSome = true
    split
    · exact key
    · unfold upd; split
      · rfl
      · exact key
  · rw [eL] at hl
    rcases (mem_insL _ _ _).1 hl with rfl | hl
    · rw [hxv, hxf, hxd, hxe]; exact ⟨hf, he⟩
    · exact h.rng l hl
  · have := small_upd (N := (N : Int)) h.gens (v, f) k
    show 0 ≤ upd T.g (v, f) (T.g (v, f) + 1) k ∧ upd T.g (v, f) (T.g (v, f) + 1) k ≤ ((N + 1 : Nat) : Int)
    omega
  · show upd T.g (v, f) (T.g (v, f) + 1) (v', f') = 0
    rw [upd_other]
    · exact h.gout v' f' hb
    · intro q; cases q; rw [hf] at hb; cases hb
  · rw [eL] at hl
    show 1 ≤ l.gen ∧ l.gen ≤ upd T.g (v, f) (T.g (v, f) + 1) (l.vol, l.frag)
    have h0 := h.gens (v, f)
    rcases (mem_insL _ _ _).1 hl with rfl | hl
    · rw [hxv, hxf, upd_same, hxg]; omega
    · have := h.glen l hl
      unfold upd
      split
      · rename_i q
        rw [q] at this
        omega
      · exact this
  · rw [eL, insL_len]; have := h.len; omega
end
end Go.Proofs.Ytnhpjmjinchamaa
