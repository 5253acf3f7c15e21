/- What Apply computes, and its walk. -/
import Derived.Test.YtpkgcklnknbbcaaM3
set_option linter.unusedVariables false
set_option linter.unusedSimpArgs false
set_option linter.unnecessarySimpa false
namespace Go.Proofs.Ytpkgcklnknbbcaa
open Go.RowKit

def hasBit (v t : Int) : Bool := decide ((v / 2 ^ t.toNat) % 2 = 1)
def orBit (v t : Int) : Int := if hasBit v t then v else v + 2 ^ t.toNat
def clearBit (v t : Int) : Int := if hasBit v t then v - 2 ^ t.toNat else v

abbrev St := Int × Int × Int × Bool
def stV (x : St) : Value := .agg #[.int .i64 x.1, .int .i64 x.2.1, .int .i64 x.2.2.1, .bool x.2.2.2]
def zeroS : St := (0, 0, 0, false)

def applyF (p s v : Int) (d : Bool) (k t : Int) : St × Int :=
  if validB p s v = false ∨ k < 1 ∨ 8 < k then (zeroS, 1)
  else if (k = 1 ∨ k = 2) ∧ (t < 0 ∨ s ≤ t) then (zeroS, 5)
  else if p = 4 ∨ p = 5 then (zeroS, 110)
  else if k = 3 then ((p, s, v, false), 0)
  else if k = 4 then ((p, s, v, true), 0)
  else if k = 6 then (if p = 2 then ((3, s, v, d), 0) else (zeroS, 110))
  else if k = 7 then (if p = 3 then ((4, s, v, d), 0) else (zeroS, 110))
  else if p = 3 then (zeroS, 110)
  else if k = 1 then ((if orBit v t = allOf s then 2 else 1, s, orBit v t, d), 0)
  else if k = 2 then ((1, s, clearBit v t, d), 0)
  else ((5, s, v, d), 0)

def RetA (x : St × Int) (w : World) (e : Ending) (w' : World) : Prop := e = .returned (.tuple #[stV x.1, .int .i64 x.2]) ∧ Below w.heap.size w w'
theorem RetA.to {x y : St × Int} {st : Value} {n : Int} {w w' : World} {e : Ending} (h : x = y) (h1 : stV y.1 = st) (h2 : y.2 = n) (he : e = .returned (.tuple #[st, .int .i64 n])) (hb : Below w.heap.size w w') : RetA x w e w' := by
  subst h h1 h2; exact ⟨he, hb⟩

def At2 (w : World) (b : Nat) (k t : Int) : Prop := w.cell? ⟨b, 0, none⟩ = some (.int .i64 k) ∧ w.cell? ⟨b, 1, none⟩ = some (.int .i64 t)
theorem at2_new (w : World) (k t : Int) (ty : TypeId) : At2 (w.alloc (.cells #[.int .i64 k, .int .i64 t] ty)) w.heap.size k t := by
  refine ⟨?_, ?_⟩ <;> simp [World.cell?_alloc_new]
theorem At2.below {w w' : World} {b B : Nat} {k t : Int} (h : At2 w b k t) (hb : Below B w w') (hB : b < B) : At2 w' b k t :=
  ⟨(hb.cell (p := ⟨b, 0, none⟩) hB).trans h.1, (hb.cell (p := ⟨b, 1, none⟩) hB).trans h.2⟩


theorem enter3 (w : World) (p s v k t : Int) (d : Bool) :
    At4 (((w.alloc (.cells #[.int .i64 p, .int .i64 s, .int .i64 v, .bool d] 23)).alloc (.cells #[.int .i64 k, .int .i64 t] 32)).alloc (.cells #[.int .i64 0, .int .i64 0, .int .i64 0, .bool false] 23)) w.heap.size p s v d ∧
    At2 (((w.alloc (.cells #[.int .i64 p, .int .i64 s, .int .i64 v, .bool d] 23)).alloc (.cells #[.int .i64 k, .int .i64 t] 32)).alloc (.cells #[.int .i64 0, .int .i64 0, .int .i64 0, .bool false] 23)) (w.heap.size + 1) k t ∧
    At4 (((w.alloc (.cells #[.int .i64 p, .int .i64 s, .int .i64 v, .bool d] 23)).alloc (.cells #[.int .i64 k, .int .i64 t] 32)).alloc (.cells #[.int .i64 0, .int .i64 0, .int .i64 0, .bool false] 23)) (w.heap.size + 1 + 1) 0 0 0 false ∧
    w.heap.size + 1 + 1 < (((w.alloc (.cells #[.int .i64 p, .int .i64 s, .int .i64 v, .bool d] 23)).alloc (.cells #[.int .i64 k, .int .i64 t] 32)).alloc (.cells #[.int .i64 0, .int .i64 0, .int .i64 0, .bool false] 23)).heap.size ∧
    Below w.heap.size w (((w.alloc (.cells #[.int .i64 p, .int .i64 s, .int .i64 v, .bool d] 23)).alloc (.cells #[.int .i64 k, .int .i64 t] 32)).alloc (.cells #[.int .i64 0, .int .i64 0, .int .i64 0, .bool false] 23)) := by
  have a1 := at4_new w p s v d
  have b1 : Below w.heap.size w (w.alloc (.cells #[.int .i64 p, .int .i64 s, .int .i64 v, .bool d] 23)) := below_of_allocs _
  have z1 : (w.alloc (.cells #[.int .i64 p, .int .i64 s, .int .i64 v, .bool d] 23)).heap.size = w.heap.size + 1 := by simp
  generalize w.alloc (.cells #[.int .i64 p, .int .i64 s, .int .i64 v, .bool d] 23) = w1 at *
  have a2 := at2_new w1 k t 32
  have b2 : Below w1.heap.size w1 (w1.alloc (.cells #[.int .i64 k, .int .i64 t] 32)) := below_of_allocs _
  have z2 : (w1.alloc (.cells #[.int .i64 k, .int .i64 t] 32)).heap.size = w1.heap.size + 1 := by simp
  generalize w1.alloc (.cells #[.int .i64 k, .int .i64 t] 32) = w2 at *
  have a3 := at4_new w2 0 0 0 false
  have b3 : Below w2.heap.size w2 (w2.alloc (.cells #[.int .i64 0, .int .i64 0, .int .i64 0, .bool false] 23)) := below_of_allocs _
  have z3 : (w2.alloc (.cells #[.int .i64 0, .int .i64 0, .int .i64 0, .bool false] 23)).heap.size = w2.heap.size + 1 := by simp
  generalize w2.alloc (.cells #[.int .i64 0, .int .i64 0, .int .i64 0, .bool false] 23) = w3 at *
  rw [z1] at a2
  rw [z2, z1] at a3
  refine ⟨(a1.below b2 (by omega)).below b3 (by omega), a2.below b3 (by omega), a3, by omega, (b1.trans (b2.mono (by omega))).trans (b3.mono (by omega))⟩

/-- a block no string shares -/
def Thaw (w : World) (b : Nat) : Prop := ∀ i, w.frozen? ⟨b, i, none⟩ = false
theorem thaw_new (w : World) (c : Array Value) (t : TypeId) : Thaw (w.alloc (.cells c t)) w.heap.size := fun i => World.frozen?_alloc_at (hn := rfl) ..
theorem Thaw.alloc {w : World} {b : Nat} (h : Thaw w b) (c : Array Value) (t : TypeId) : Thaw (w.alloc (.cells c t)) b := fun i => (frozen?_alloc_cells _ _ _ _).trans (h i)
theorem Thaw.below {w w' : World} {b B : Nat} (h : Thaw w b) (hb : Below B w w') (hB : b < B) : Thaw w' b := fun i => (hb.frozen (p := ⟨b, i, none⟩) hB).trans (h i)
theorem Thaw.setCell {w : World} {b : Nat} (h : Thaw w b) (a : Addr) (v : Value) : Thaw (w.setCell a v) b := fun i => (World.frozen?_setCell ..).trans (h i)

/-- what the walk of Apply knows behind the call of Valid -/
structure In3 (w w' : World) (p s v k t : Int) (d : Bool) : Prop where
  a : At4 w' w.heap.size p s v d
  e : At2 w' (w.heap.size + 1) k t
  r : At4 w' (w.heap.size + 1 + 1) 0 0 0 false
  fa : Thaw w' w.heap.size
  fr : Thaw w' (w.heap.size + 1 + 1)
  size : w.heap.size + 1 + 1 < w'.heap.size
  below : Below w.heap.size w w'

theorem enter3_call {w w' : World} {p s v k t : Int} {d : Bool}
    (h : Below (((w.alloc (.cells #[.int .i64 p, .int .i64 s, .int .i64 v, .bool d] 23)).alloc (.cells #[.int .i64 k, .int .i64 t] 32)).alloc (.cells #[.int .i64 0, .int .i64 0, .int .i64 0, .bool false] 23)).heap.size
      (((w.alloc (.cells #[.int .i64 p, .int .i64 s, .int .i64 v, .bool d] 23)).alloc (.cells #[.int .i64 k, .int .i64 t] 32)).alloc (.cells #[.int .i64 0, .int .i64 0, .int .i64 0, .bool false] 23)) w') :
    In3 w w' p s v k t d := by
  obtain ⟨a, e, r, z, b⟩ := enter3 w p s v k t d
  have fa : Thaw (((w.alloc (.cells #[.int .i64 p, .int .i64 s, .int .i64 v, .bool d] 23)).alloc (.cells #[.int .i64 k, .int .i64 t] 32)).alloc (.cells #[.int .i64 0, .int .i64 0, .int .i64 0, .bool false] 23)) w.heap.size := ((thaw_new _ _ _).alloc _ _).alloc _ _
  have fr : Thaw (((w.alloc (.cells #[.int .i64 p, .int .i64 s, .int .i64 v, .bool d] 23)).alloc (.cells #[.int .i64 k, .int .i64 t] 32)).alloc (.cells #[.int .i64 0, .int .i64 0, .int .i64 0, .bool false] 23)) (w.heap.size + 1 + 1) := by
    have := thaw_new ((w.alloc (.cells #[.int .i64 p, .int .i64 s, .int .i64 v, .bool d] 23)).alloc (.cells #[.int .i64 k, .int .i64 t] 32)) #[.int .i64 0, .int .i64 0, .int .i64 0, .bool false] 23
    simpa using this
  generalize ((w.alloc (.cells #[.int .i64 p, .int .i64 s, .int .i64 v, .bool d] 23)).alloc (.cells #[.int .i64 k, .int .i64 t] 32)).alloc (.cells #[.int .i64 0, .int .i64 0, .int .i64 0, .bool false] 23) = w3 at *
  exact ⟨a.below h (by omega), e.below h (by omega), r.below h (by omega), fa.below h (by omega), fr.below h (by omega), Nat.lt_of_lt_of_le z h.size, b.trans (h.mono (by omega))⟩


theorem In3.drew {w w' : World} {p s v k t : Int} {d : Bool} (h : In3 w w' p s v k t d) : In3 w { w' with drawn := w'.drawn + 1 } p s v k t d := ⟨h.a, h.e, h.r, h.fa, h.fr, h.size, h.below.drew⟩
theorem In3.call {w w' w'' : World} {p s v k t : Int} {d : Bool} (h : In3 w w' p s v k t d) (hb : Below w'.heap.size w' w'') : In3 w w'' p s v k t d :=
  ⟨h.a.below hb (by have := h.size; omega), h.e.below hb (by have := h.size; omega), h.r.below hb h.size, h.fa.below hb (by have := h.size; omega), h.fr.below hb h.size, Nat.lt_of_lt_of_le h.size hb.size, h.below.trans (hb.mono (by have := h.size; omega))⟩
theorem In3.setP {w w' : World} {p s v k t : Int} {d : Bool} (h : In3 w w' p s v k t d) (x : Int) : In3 w (w'.setCell ⟨w.heap.size, 0, none⟩ (.int .i64 x)) x s v k t d := by
  obtain ⟨⟨a0, a1, a2, a3⟩, ⟨e0, e1⟩, ⟨r0, r1, r2, r3⟩, fa, fr, z, b⟩ := h
  refine ⟨⟨?_, ?_, ?_, ?_⟩, ⟨?_, ?_⟩, ⟨?_, ?_, ?_, ?_⟩, fa.setCell _ _, fr.setCell _ _, ?_, b.setCell (Nat.le_refl _) _⟩ <;> simp_all [World.cell?_setCell_other, World.cell?_setCell_same']
theorem In3.setV {w w' : World} {p s v k t : Int} {d : Bool} (h : In3 w w' p s v k t d) (x : Int) : In3 w (w'.setCell ⟨w.heap.size, 2, none⟩ (.int .i64 x)) p s x k t d := by
  obtain ⟨⟨a0, a1, a2, a3⟩, ⟨e0, e1⟩, ⟨r0, r1, r2, r3⟩, fa, fr, z, b⟩ := h
  refine ⟨⟨?_, ?_, ?_, ?_⟩, ⟨?_, ?_⟩, ⟨?_, ?_, ?_, ?_⟩, fa.setCell _ _, fr.setCell _ _, ?_, b.setCell (Nat.le_refl _) _⟩ <;> simp_all [World.cell?_setCell_other, World.cell?_setCell_same']
theorem In3.setD {w w' : World} {p s v k t : Int} {d : Bool} (h : In3 w w' p s v k t d) (x : Bool) : In3 w (w'.setCell ⟨w.heap.size, 3, none⟩ (.bool x)) p s v k t x := by
  obtain ⟨⟨a0, a1, a2, a3⟩, ⟨e0, e1⟩, ⟨r0, r1, r2, r3⟩, fa, fr, z, b⟩ := h
  refine ⟨⟨?_, ?_, ?_, ?_⟩, ⟨?_, ?_⟩, ⟨?_, ?_, ?_, ?_⟩, fa.setCell _ _, fr.setCell _ _, ?_, b.setCell (Nat.le_refl _) _⟩ <;> simp_all [World.cell?_setCell_other, World.cell?_setCell_same']

theorem or_small : ∀ (v : Fin 16) (t : Fin 4), bits .or .i64 (v.val : Int) (IntKind.i64.wrap (2 ^ t.val)) = orBit (v.val : Int) (t.val : Int) := by decide +kernel
theorem andNot_small : ∀ (v : Fin 16) (t : Fin 4), bits .andNot .i64 (v.val : Int) (IntKind.i64.wrap (2 ^ t.val)) = clearBit (v.val : Int) (t.val : Int) := by decide +kernel

theorem valid_bounds {p s v : Int} (h : validB p s v = true) : 1 ≤ s ∧ s ≤ 4 ∧ 0 ≤ v ∧ v ≤ allOf s := by
  unfold validB at h
  simp at h
  omega
theorem allOf_le {s : Int} (h1 : 1 ≤ s) (h4 : s ≤ 4) : allOf s ≤ 15 := by
  have hs : s = 1 ∨ s = 2 ∨ s = 3 ∨ s = 4 := by omega
  rcases hs with rfl | rfl | rfl | rfl <;> decide

theorem or_fact {p s v t : Int} (h : validB p s v = true) (h0 : 0 ≤ t) (ht : t < s) : bits .or .i64 v (IntKind.i64.wrap (2 ^ t.toNat)) = orBit v t := by
  obtain ⟨h1, h4, h2, h3⟩ := valid_bounds h
  have := allOf_le h1 h4
  have := or_small ⟨v.toNat, by omega⟩ ⟨t.toNat, by omega⟩
  simp only [Int.toNat_of_nonneg h2, Int.toNat_of_nonneg h0] at this
  exact this
theorem andNot_fact {p s v t : Int} (h : validB p s v = true) (h0 : 0 ≤ t) (ht : t < s) : bits .andNot .i64 v (IntKind.i64.wrap (2 ^ t.toNat)) = clearBit v t := by
  obtain ⟨h1, h4, h2, h3⟩ := valid_bounds h
  have := allOf_le h1 h4
  have := andNot_small ⟨v.toNat, by omega⟩ ⟨t.toNat, by omega⟩
  simp only [Int.toNat_of_nonneg h2, Int.toNat_of_nonneg h0] at this
  exact this


theorem below_set {B b i : Nat} {a w : World} {u : Value} (h : Below B a w) (hb : B ≤ b) : Below B a (w.setCell ⟨b, i, none⟩ u) := h.setCell hb u

theorem ret16 {x : St × Int} {w w' : World} {a : Act} (h : (results Try.f16 a.tmps).run Try.prog w' = .ok (.tuple #[stV x.1, .int .i64 x.2]) w') (hd : a.defers = []) (hb : Below w.heap.size w w') :
    bodyPost Try.prog Try.f16 (RetA x w) .ret a w' := bodyPost_ret h hd ⟨rfl, hb⟩


set_option maxHeartbeats 1000000 in
theorem apply_11 (s v t : Int) (d : Bool) (w : World) (hk : validB 1 s v = true) (h0 : 0 ≤ t) (ht : t < s) :
    Calls Try.prog 16 #[.agg #[.int .i64 1, .int .i64 s, .int .i64 v, .bool d], .agg #[.int .i64 1, .int .i64 t]] w (RetA ((if orBit v t = allOf s then 2 else 1, s, orBit v t, d), 0) w) := by
  obtain ⟨h1, h4, h2, h3⟩ := valid_bounds hk
  have h15 := allOf_le h1 h4
  have hv1 : -9223372036854775808 ≤ v := by omega
  have hv2 : v ≤ 9223372036854775807 := by omega
  have hor := or_fact hk h0 ht
  have hv := Lib.hid hk
  clear hk
  have ht64 : t ≤ 64 := by omega
  have hlt : decide (t < 0) = false := by simpa using h0
  have hge : decide (s ≤ t) = false := by simpa using ht
  generalize orBit v t = o at *
  clear h15 h2 h3
  generalize hx : (((if o = allOf s then 2 else 1, s, o, d), 0) : St × Int) = x
  have HX := Lib.hid hx
  clear hx
  go_enter Try.func16, Try.ntmps16
  go_wp2_with (go_at_call 14; refine (valid_any _ _ _ _ _ hv1 hv2).mono ?_; rintro e w1 ⟨rfl, hb1⟩; have hin := enter3_call hb1; have HI := Lib.hid hin; obtain ⟨c0, c1, c2, c3⟩ := hin.a; obtain ⟨c4, c5⟩ := hin.e; have hval := hv.out; clear hb1 hin)
  refine wp_region_still_tail 7 (by kernel_rfl) (by kernel_rfl) ?_
  simp only [List.take_succ_cons, List.take_zero, List.drop_succ_cons, List.drop_zero]
  repeat still_step
  refine wpStill_nil ?_
  have HI2 := Lib.hid (HI.out.drew)
  generalize { w1 with drawn := w1.drawn + 1 } = w2 at *
  clear c0 c1 c2 c3 c4 c5
  obtain ⟨c0, c1, c2, c3⟩ := HI2.out.a
  have cf := HI2.out.fa 2
  go_wp2_with fail
  have HI3 := Lib.hid (HI2.out.setV o)
  generalize w2.setCell ⟨w.heap.size, 2, none⟩ (.int .i64 o) = w3 at *
  clear c0 c1 c2 c3 cf HI HI2
  refine wp_region_grow (Up4 w3 w.heap.size 1 s o d) (by kernel_rfl) (by kernel_rfl) ⟨(Below.refl _ _).drew, HI3.out.a⟩ ?_
  have hsz1 : w.heap.size < w3.heap.size := by have := HI3.out.size; omega
  repeat first
           | (apply gRow_plain
              · exact rfl
              · intro wg hg
                have hc := Up4.facts wg hg
                go_simp
                first
                  | exact rfl
                  | exact ⟨hg, rfl⟩
                  | ((refine (all_any _ _ _ _ _ h1 h4).mono ?_; rintro e w1 ⟨rfl, hb1⟩; exact ⟨rfl, hg.call hsz1 hb1⟩))
              intro K hK
              go_simp
              refine hK _ ?_
              clear hK K)
           | (apply gRow_step
              · go_simp; done
              · intro wg hg
                have hc := Up4.facts wg hg
                go_simp
                first
                  | exact rfl
                  | exact ⟨hg, rfl⟩
                  | ((refine (all_any _ _ _ _ _ h1 h4).mono ?_; rintro e w1 ⟨rfl, hb1⟩; exact ⟨rfl, hg.call hsz1 hb1⟩))
              intro K hK
              go_simp
              refine hK _ ?_
              clear hK K)
           | (apply gRow_not
              · go_simp; done
              intro K hK
              go_simp
              refine hK _ ?_
              clear hK K)
  refine gRow_nil ?_
  rintro w4 ⟨HB2, hA2⟩
  have HI4 := Lib.hid (HI3.out.call HB2)
  clear hA2 HB2 HI3 hsz1
  (obtain ⟨c0, c1, c2, c3⟩ := (HI4).out.a
   obtain ⟨c4, c5⟩ := (HI4).out.e
   obtain ⟨c6, c7, c8, c9⟩ := (HI4).out.r
   have cf0 := (HI4).out.fa 0
   have cf2 := (HI4).out.fa 2
   have cf3 := (HI4).out.fa 3
   have cg0 := (HI4).out.fr 0
   have cg1 := (HI4).out.fr 1
   have cg2 := (HI4).out.fr 2
   have cg3 := (HI4).out.fr 3)
  go_wp2_with fail
  all_goals
    refine ret16 ?_ rfl ?_
    · rw [← HX.out]
      simp_all [results, Try.f16, go_sem, stV]
    · (repeat with_reducible refine below_set ?_ (by omega)); with_reducible exact HI4.out.below
end Go.Proofs.Ytpkgcklnknbbcaa
