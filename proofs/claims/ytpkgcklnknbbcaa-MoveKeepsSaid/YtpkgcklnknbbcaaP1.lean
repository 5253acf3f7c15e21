/- What Play computes; a list of events in memory. -/
import Derived.Test.YtpkgcklnknbbcaaR4
import Derived.Outline
set_option linter.unusedVariables false
set_option linter.unusedSimpArgs false
set_option linter.unnecessarySimpa false
namespace Go.Proofs.Ytpkgcklnknbbcaa
open Go.RowKit

abbrev Ev := Int × Int
def applyS (x : St) (e : Ev) : St × Int := applyF x.1 x.2.1 x.2.2.1 x.2.2.2 e.1 e.2
def validS (x : St) : Bool := validB x.1 x.2.1 x.2.2.1

/-- the state after the first k events, if none was refused -/
def played (x : St) (es : List Ev) : Nat → Option St
  | 0 => some x
  | k + 1 => match played x es k with
    | none => none
    | some y => if (applyS y (es.getD k (0, 0))).2 = 0 then some (applyS y (es.getD k (0, 0))).1 else none

def playF (x : St) : List Ev → Nat → St × Int
  | [], i => (x, i)
  | e :: es, i => if (applyS x e).2 = 0 then playF (applyS x e).1 es (i + 1) else (x, i)

/-- a list of events in memory -/
def Evs (w : World) (v : Value) (es : List Ev) : Prop :=
  ∃ (a : Option Addr) (cap : Nat), v = .slice a es.length cap ∧ es.length ≤ 9223372036854775807 ∧ ∀ i, i < es.length → ∃ b off, a = some ⟨b, off, none⟩ ∧ b < w.heap.size ∧
    w.cell? ⟨b, off + i * 2, none⟩ = some (.int .i64 (es.getD i (0, 0)).1) ∧ w.cell? ⟨b, off + i * 2 + 1, none⟩ = some (.int .i64 (es.getD i (0, 0)).2)

theorem Evs.below {w w' : World} {v : Value} {es : List Ev} {B : Nat} (h : Evs w v es) (hb : Below B w w') (hB : w.heap.size ≤ B) : Evs w' v es := by
  obtain ⟨a, cap, hv, hl, hi⟩ := h
  refine ⟨a, cap, hv, hl, fun i hlt => ?_⟩
  obtain ⟨b, off, ha, hbs, h0, h1⟩ := hi i hlt
  exact ⟨b, off, ha, by have := hb.size; omega, (hb.cell (p := ⟨b, off + i * 2, none⟩) (by show b < B; omega)).trans h0, (hb.cell (p := ⟨b, off + i * 2 + 1, none⟩) (by show b < B; omega)).trans h1⟩

theorem playF_drop (x : St) (es : List Ev) (k : Nat) (hk : k < es.length) : playF x (es.drop k) k =
    if (applyS x (es.getD k (0, 0))).2 = 0 then playF (applyS x (es.getD k (0, 0))).1 (es.drop (k + 1)) (k + 1) else (x, (k : Int)) := by
  rw [List.drop_eq_getElem_cons hk]
  have : es.getD k (0, 0) = es[k] := by simp [List.getD, hk]
  rw [this]
  rfl

theorem applyF_valid {p s v k t : Int} {d : Bool} {p' s' v' : Int} {d' : Bool} (h : applyF p s v d k t = ((p', s', v', d'), 0)) : validB p' s' v' = true := by
  have bad : ∀ n : Int, n ≠ 0 → ((zeroS, n) : St × Int) = ((p', s', v', d'), 0) → False := fun n hn h => hn (congrArg Prod.snd h)
  have good : ∀ a b c e, (((a, b, c, e), 0) : St × Int) = ((p', s', v', d'), 0) → validB a b c = true → validB p' s' v' = true := fun a b c e h hv => by
    have h1 := congrArg Prod.fst h
    obtain ⟨rfl, h2⟩ := Prod.mk.inj h1
    obtain ⟨rfl, h3⟩ := Prod.mk.inj h2
    obtain ⟨rfl, _⟩ := Prod.mk.inj h3
    exact hv
  unfold applyF at h
  by_cases g1 : validB p s v = false ∨ k < 1 ∨ 8 < k
  · rw [if_pos g1] at h; exact (bad _ (by decide) h).elim
  rw [if_neg g1] at h
  have hb : validB p s v = true := by
    cases hh : validB p s v with
    | true => rfl
    | false => exact absurd (.inl hh) g1
  obtain ⟨b1, b4, b2, b3⟩ := valid_bounds hb
  have hp := valid_phase hb
  have h15 := allOf_le b1 b4
  have key : ∀ (s : Fin 5) (v : Fin 16) (t : Fin 4), 1 ≤ s.val → (v.val : Int) ≤ allOf s.val → t.val < s.val →
      (((0 : Int) ≤ orBit v.val t.val ∧ orBit v.val t.val ≤ allOf s.val) ∧ ((0 : Int) ≤ clearBit v.val t.val ∧ clearBit v.val t.val < allOf s.val)) := by decide +kernel
  have kk : 0 ≤ t → t < s → (((0 : Int) ≤ orBit v t ∧ orBit v t ≤ allOf s) ∧ ((0 : Int) ≤ clearBit v t ∧ clearBit v t < allOf s)) := fun h0 ht => by
    have := key ⟨s.toNat, by omega⟩ ⟨v.toNat, by omega⟩ ⟨t.toNat, by omega⟩ (by show 1 ≤ s.toNat; omega) (by simp only [Int.toNat_of_nonneg b2, Int.toNat_of_nonneg (show 0 ≤ s by omega)]; exact b3) (by show t.toNat < s.toNat; omega)
    simpa only [Int.toNat_of_nonneg b2, Int.toNat_of_nonneg h0, Int.toNat_of_nonneg (show 0 ≤ s by omega)] using this
  have mk : ∀ p v : Int, 0 ≤ v → v ≤ allOf s → (p = 1 ∧ v ≠ allOf s ∨ (p = 2 ∨ p = 3 ∨ p = 4) ∧ v = allOf s ∨ p = 5) → validB p s v = true := fun p v h1 h2 h3 => by
    (rcases h3 with ⟨rfl, h⟩ | ⟨rfl | rfl | rfl, h⟩ | rfl) <;> (have hz := h1) <;> simp_all [validB]
  by_cases g2 : (k = 1 ∨ k = 2) ∧ (t < 0 ∨ s ≤ t)
  · rw [if_pos g2] at h; exact (bad _ (by decide) h).elim
  rw [if_neg g2] at h
  by_cases g3 : p = 4 ∨ p = 5
  · rw [if_pos g3] at h; exact (bad _ (by decide) h).elim
  rw [if_neg g3] at h
  by_cases k3 : k = 3
  · rw [if_pos k3] at h; exact good _ _ _ _ h hb
  rw [if_neg k3] at h
  by_cases k4 : k = 4
  · rw [if_pos k4] at h; exact good _ _ _ _ h hb
  rw [if_neg k4] at h
  by_cases k6 : k = 6
  · rw [if_pos k6] at h
    by_cases q : p = 2
    · rw [if_pos q] at h; exact good _ _ _ _ h (mk _ _ b2 b3 (by omega))
    · rw [if_neg q] at h; exact (bad _ (by decide) h).elim
  rw [if_neg k6] at h
  by_cases k7 : k = 7
  · rw [if_pos k7] at h
    by_cases q : p = 3
    · rw [if_pos q] at h; exact good _ _ _ _ h (mk _ _ b2 b3 (by omega))
    · rw [if_neg q] at h; exact (bad _ (by decide) h).elim
  rw [if_neg k7] at h
  by_cases q3 : p = 3
  · rw [if_pos q3] at h; exact (bad _ (by decide) h).elim
  rw [if_neg q3] at h
  by_cases k1 : k = 1
  · rw [if_pos k1] at h
    obtain ⟨⟨u1, u2⟩, _⟩ := kk (by omega) (by omega)
    by_cases e : orBit v t = allOf s
    · rw [if_pos e] at h; exact good _ _ _ _ h (mk _ _ u1 u2 (by omega))
    · rw [if_neg e] at h; exact good _ _ _ _ h (mk _ _ u1 u2 (by omega))
  rw [if_neg k1] at h
  by_cases k2 : k = 2
  · rw [if_pos k2] at h
    obtain ⟨_, u1, u2⟩ := kk (by omega) (by omega)
    exact good _ _ _ _ h (mk _ _ u1 (by omega) (by omega))
  rw [if_neg k2] at h
  exact good _ _ _ _ h (mk _ _ b2 b3 (by omega))

theorem apply_as {p s v k t : Int} {d : Bool} {p' s' v' : Int} {d' : Bool} {n' : Int} (h : applyF p s v d k t = ((p', s', v', d'), n')) (w : World) (hv1 : -9223372036854775808 ≤ v) (hv2 : v ≤ 9223372036854775807) :
    Calls Try.prog 16 #[.agg #[.int .i64 p, .int .i64 s, .int .i64 v, .bool d], .agg #[.int .i64 k, .int .i64 t]] w fun e w' => e = .returned (.tuple #[.agg #[.int .i64 p', .int .i64 s', .int .i64 v', .bool d'], .int .i64 n']) ∧ Below w.heap.size w w' := by
  have := apply_any p s v k t d w hv1 hv2
  rw [h] at this
  exact this

theorem refApply_as {p s v k t : Int} {d : Bool} {p' s' v' : Int} {d' : Bool} {n' : Int} (h : applyF p s v d k t = ((p', s', v', d'), n')) (w : World) :
    Calls Try.prog 17 #[.agg #[.int .i64 p, .int .i64 s, .int .i64 v, .bool d], .agg #[.int .i64 k, .int .i64 t]] w fun e w' => e = .returned (.tuple #[.agg #[.int .i64 p', .int .i64 s', .int .i64 v', .bool d'], .int .i64 n']) ∧ Below w.heap.size w w' := by
  have := refApply_any p s v k t d w
  rw [h] at this
  exact this

/-- what the walk of Play knows at each round -/
structure InP (w w' : World) (p s v : Int) (d : Bool) : Prop where
  a : At4 w' w.heap.size p s v d
  r : At4 w' (w.heap.size + 1) 0 0 0 false
  fa : Thaw w' w.heap.size
  fr : Thaw w' (w.heap.size + 1)
  size : w.heap.size + 1 < w'.heap.size
  below : Below w.heap.size w w'

theorem InP.call {w w' w'' : World} {p s v : Int} {d : Bool} (h : InP w w' p s v d) (hb : Below w'.heap.size w' w'') : InP w w'' p s v d :=
  ⟨h.a.below hb (by have := h.size; omega), h.r.below hb (by have := h.size; omega), h.fa.below hb (by have := h.size; omega), h.fr.below hb h.size, Nat.lt_of_lt_of_le h.size hb.size, h.below.trans (hb.mono (by have := h.size; omega))⟩
theorem InP.new {w w' : World} {p s v : Int} {d : Bool} (h : InP w w' p s v d) (o : Obj) : InP w (w'.alloc o) p s v d := h.call (below_of_allocs _)
theorem InP.drew {w w' : World} {p s v : Int} {d : Bool} (h : InP w w' p s v d) : InP w { w' with drawn := w'.drawn + 1 } p s v d := ⟨h.a, h.r, h.fa, h.fr, h.size, h.below.drew⟩
theorem InP.set {w w' : World} {p s v p' s' v' : Int} {d d' : Bool} (h : InP w w' p s v d) :
    InP w ((((w'.setCell ⟨w.heap.size, 0, none⟩ (.int .i64 p')).setCell ⟨w.heap.size, 1, none⟩ (.int .i64 s')).setCell ⟨w.heap.size, 2, none⟩ (.int .i64 v')).setCell ⟨w.heap.size, 3, none⟩ (.bool d')) p' s' v' d' := by
  obtain ⟨⟨a0, a1, a2, a3⟩, ⟨r0, r1, r2, r3⟩, fa, fr, z, b⟩ := h
  refine ⟨⟨?_, ?_, ?_, ?_⟩, ⟨?_, ?_, ?_, ?_⟩, (((fa.setCell _ _).setCell _ _).setCell _ _).setCell _ _, (((fr.setCell _ _).setCell _ _).setCell _ _).setCell _ _, ?_, (((b.setCell (Nat.le_refl _) _).setCell (Nat.le_refl _) _).setCell (Nat.le_refl _) _).setCell (Nat.le_refl _) _⟩ <;> simp_all [World.cell?_setCell_other, World.cell?_setCell_same']

theorem enterP (w : World) (p s v : Int) (d : Bool) :
    InP w ((w.alloc (.cells #[.int .i64 p, .int .i64 s, .int .i64 v, .bool d] 23)).alloc (.cells #[.int .i64 0, .int .i64 0, .int .i64 0, .bool false] 23)) p s v d := by
  have a1 := at4_new w p s v d
  have f1 := thaw_new w #[.int .i64 p, .int .i64 s, .int .i64 v, .bool d] 23
  have b1 : Below w.heap.size w (w.alloc (.cells #[.int .i64 p, .int .i64 s, .int .i64 v, .bool d] 23)) := below_of_allocs _
  have z1 : (w.alloc (.cells #[.int .i64 p, .int .i64 s, .int .i64 v, .bool d] 23)).heap.size = w.heap.size + 1 := by simp
  generalize w.alloc (.cells #[.int .i64 p, .int .i64 s, .int .i64 v, .bool d] 23) = w1 at *
  have a2 := at4_new w1 0 0 0 false
  have f2 := thaw_new w1 #[.int .i64 0, .int .i64 0, .int .i64 0, .bool false] 23
  have b2 : Below w1.heap.size w1 (w1.alloc (.cells #[.int .i64 0, .int .i64 0, .int .i64 0, .bool false] 23)) := below_of_allocs _
  have z2 : (w1.alloc (.cells #[.int .i64 0, .int .i64 0, .int .i64 0, .bool false] 23)).heap.size = w1.heap.size + 1 := by simp
  generalize w1.alloc (.cells #[.int .i64 0, .int .i64 0, .int .i64 0, .bool false] 23) = w2 at *
  rw [z1] at a2 f2
  exact ⟨a1.below b2 (by omega), a2, f1.below b2 (by omega), f2, by omega, b1.trans (b2.mono (by omega))⟩


end Go.Proofs.Ytpkgcklnknbbcaa
