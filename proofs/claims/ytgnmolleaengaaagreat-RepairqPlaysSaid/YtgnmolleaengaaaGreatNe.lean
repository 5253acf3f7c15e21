/- The walks of natural.Make at 0 and 1, divide and Gcd at 0 and 1; fraction.absolute, lowest and Make at 0 / 1. -/
import Derived.Test.YtgnmolleaengaaaGreatNd
set_option linter.unusedVariables false
set_option linter.unusedSimpArgs false
set_option linter.unnecessarySimpa false
namespace Go.Proofs.YtgnmolleaengaaaGreat
open Go Go.RowKit

theorem two_limbs (w : World) (x y : Nat) : Rd eU (w.alloc (.cells #[.int .u32 (x : Int), .int .u32 (y : Int)] 94)) (.slice (some ⟨w.heap.size, 0, none⟩) 2 2) [x, y] := Rd.new (E := eU) w [x, y] (by simp) 94

/-- a block of elements of type t -/
def TyB (w : World) (b : Nat) (t : TypeId) : Prop := ∃ c z, w.heap[b]? = some (.cells c t z)
theorem TyB.new (w : World) (c : Array Value) (t : TypeId) : TyB (w.alloc (.cells c t)) w.heap.size t := ⟨c, (0, 0), by show (w.heap.push _)[w.heap.size]? = _; simp⟩
theorem TyB.lt {w : World} {b : Nat} {t : TypeId} (h : TyB w b t) : b < w.heap.size := by
  obtain ⟨c, z, h⟩ := h
  exact (Array.getElem?_eq_some_iff.1 h).1
theorem TyB.same {w w' : World} {b : Nat} {t : TypeId} (h : TyB w b t) (e : w'.heap[b]? = w.heap[b]?) : TyB w' b t := by
  obtain ⟨c, z, h⟩ := h
  exact ⟨c, z, e.trans h⟩
theorem TyB.keep {w w' : World} {b : Nat} {t : TypeId} (h : TyB w b t) (hb : Below w.heap.size w w') : TyB w' b t := h.same (hb.block b h.lt)
theorem TyB.uniq {w : World} {b : Nat} {t u : TypeId} (h : TyB w b t) (h2 : TyB w b u) : t = u := by
  obtain ⟨c, z, h⟩ := h
  obtain ⟨c', z', h2⟩ := h2
  rw [h] at h2
  cases h2
  rfl
theorem TyB.ne {w : World} {b b' : Nat} {t u : TypeId} (h : TyB w b t) (h2 : TyB w b' u) (hne : t ≠ u) : b ≠ b' := fun e => by subst e; exact hne (h.uniq h2)
theorem TyB.setCell {w : World} {b b' : Nat} {t : TypeId} (h : TyB w b t) (i : Nat) (v : Value) : TyB (w.setCell ⟨b', i, none⟩ v) b t := by
  by_cases e : b' = b
  · subst e
    obtain ⟨c, z, h⟩ := h
    refine ⟨c.setIfInBounds i v, z, ?_⟩
    simp [World.setCell, Array.getElem?_modify, h]
  · exact h.same (Below.heap_setCell _ _ _ _ (fun q => e q.symm))

/-- limbs in a block of limbs -/
structure Ru (w : World) (v : Value) (l : List Nat) : Prop where
  rd : Rd eU w v l
  ty : ∀ k, v.ownBlock = some k → TyB w k 94
theorem Rd.same {α : Type} {E : Enc α} {w w' : World} {v : Value} {l : List α} (h : Rd E w v l) (hs : w.heap.size ≤ w'.heap.size) (hk : ∀ k, v.ownBlock = some k → w'.heap[k]? = w.heap[k]?) : Rd E w' v l := by
  obtain ⟨a, cap, rfl, hl, h⟩ := h
  refine ⟨a, cap, rfl, hl, ?_⟩
  rcases h with h | ⟨b, off, rfl, hlt, hc⟩
  · exact .inl h
  · exact .inr ⟨b, off, rfl, Nat.lt_of_lt_of_le hlt hs, fun j u hu => (World.cell?_of_block (w := w) (a := ⟨b, off + j, none⟩) (hk b rfl)).trans (hc j u hu)⟩
theorem Ru.keep {w w' : World} {v : Value} {l : List Nat} (h : Ru w v l) (hb : Below w.heap.size w w') : Ru w' v l := ⟨h.rd.keep hb, fun k hk => (h.ty k hk).keep hb⟩
theorem Ru.only {w w' : World} {v : Value} {l : List Nat} {S : List Nat} (h : Ru w v l) (ho : Only S w w') (hS : ∀ s ∈ S, ∃ t, TyB w s t ∧ t ≠ 94) : Ru w' v l := by
  have key : ∀ k, v.ownBlock = some k → w'.heap[k]? = w.heap[k]? := fun k hk => ho.block k (h.ty k hk).lt fun hm => by
    obtain ⟨t, ht, hne⟩ := hS k hm
    exact hne (ht.uniq (h.ty k hk))
  exact ⟨h.rd.same ho.size key, fun k hk => (h.ty k hk).same (key k hk)⟩
theorem Ru.set {w : World} {v : Value} {l : List Nat} (h : Ru w v l) {b : Nat} {t : TypeId} (hb : TyB w b t) (ht : t ≠ 94) (i : Nat) (x : Value) : Ru (w.setCell ⟨b, i, none⟩ x) v l :=
  h.only (S := [b]) ((Only.refl [b] w).setCell (.inl (by simp)) i x) fun s hs => ⟨t, by rw [List.mem_singleton.1 hs]; exact hb, ht⟩
theorem Ru.of_ow {w0 w : World} {v : Value} {l : List Nat} (h : Ow eU 94 w0 w v l) (hl : l.length ≤ 1000000) : Ru w v l :=
  ⟨h.rd hl, fun k hk => by
    rcases h.row.2 with ⟨rfl, _⟩ | ⟨g, cap, cur, rfl, _, hg, _⟩
    · cases hk
    · have : g = k := Option.some.inj hk
      subst this
      exact ⟨cur, (0, 0), hg⟩⟩

def SlPost (w : World) (l : List Nat) (e : Ending) (w' : World) : Prop := ∃ a c, e = .returned (.slice a l.length c) ∧ Ru w' (.slice a l.length c) l ∧ Below w.heap.size w w'
theorem two_own (w : World) (c : Array Value) (l : List Nat) (n k : Nat) (h : Rd eU (w.alloc (.cells c 94)) (.slice (some ⟨w.heap.size, 0, none⟩) n k) l) : Ru (w.alloc (.cells c 94)) (.slice (some ⟨w.heap.size, 0, none⟩) n k) l :=
  ⟨h, fun b hb => by
    have : w.heap.size = b := Option.some.inj hb
    subst this
    exact TyB.new _ _ _⟩

theorem make_zero (w : World) : Calls Tryz.prog 78 #[.int .u64 0] w (SlPost w []) := by
  have HR : Hid (Rd eU (w.alloc (.cells #[.int .u32 0, .int .u32 0] 94)) (.slice (some ⟨w.heap.size, 0, none⟩) 2 2) [0, 0]) := Lib.hid (two_limbs w 0 0)
  have HC := Lib.hid (show clen [0, 0] = 0 by decide)
  have HS := Lib.hid ((two_limbs w 0 0).cut HC.out 2 (by omega) (by omega))
  go_enter Tryz.func78, Tryz.ntmps78
  go_wp2_with (go_at_call 79; (with_reducible refine (length_as HR.out HC.out).mono ?_); rintro e w1 ⟨rfl, rfl⟩)
  go_ret
  exact ⟨_, _, rfl, two_own _ _ _ _ _ HS.out, below_alloc _ _⟩
theorem make_one (w : World) : Calls Tryz.prog 78 #[.int .u64 1] w (SlPost w [1]) := by
  have HR : Hid (Rd eU (w.alloc (.cells #[.int .u32 1, .int .u32 0] 94)) (.slice (some ⟨w.heap.size, 0, none⟩) 2 2) [1, 0]) := Lib.hid (two_limbs w 1 0)
  have HC := Lib.hid (show clen [1, 0] = 1 by decide)
  have HS := Lib.hid ((two_limbs w 1 0).cut HC.out 2 (by omega) (by omega))
  go_enter Tryz.func78, Tryz.ntmps78
  go_wp2_with (go_at_call 79; (with_reducible refine (length_as HR.out HC.out).mono ?_); rintro e w1 ⟨rfl, rfl⟩)
  go_ret
  exact ⟨_, _, rfl, two_own _ _ _ _ _ HS.out, below_alloc _ _⟩
theorem abs_zero (w : World) : Calls Tryz.prog 53 #[.int .i64 0] w (SlPost w []) := by
  go_enter Tryz.func53, Tryz.ntmps53
  go_wp2_with (go_at_call 78; (with_reducible refine (make_zero _).mono ?_); rintro e w1 ⟨a, c, rfl, hr, hb⟩; have HR := Lib.hid hr; have HB := Lib.hid hb; clear hr hb)
  go_ret
  exact ⟨_, _, rfl, HR.out, HB.out⟩
theorem abs_one (w : World) : Calls Tryz.prog 53 #[.int .i64 1] w (SlPost w [1]) := by
  go_enter Tryz.func53, Tryz.ntmps53
  go_wp2_with (go_at_call 78; (with_reducible refine (make_one _).mono ?_); rintro e w1 ⟨a, c, rfl, hr, hb⟩; have HR := Lib.hid hr; have HB := Lib.hid hb; clear hr hb)
  go_ret
  exact ⟨_, _, rfl, HR.out, HB.out⟩
theorem trim_sl {w : World} {v : Value} {l : List Nat} (h : Rd eU w v l) (hl : clen l ≤ 5000) : Calls Tryz.prog 77 #[v] w (SlPost w (trim l)) :=
  (trim_any h hl).mono fun e w' ⟨u, he, ho⟩ => by
    have hr := Ru.of_ow ho (by rw [trim_len]; omega)
    obtain ⟨a, c, rfl⟩ := ho.val
    exact ⟨a, c, he, hr, ho.below⟩
theorem cmp_as {w : World} {v u : Value} {l m : List Nat} (h : Rd eU w v l) (h2 : Rd eU w u m) (hl : clen l ≤ 5000) (hm : clen m ≤ 5000) {r : Int} (hr : cmpN l m = r) : Calls Tryz.prog 55 #[v, u] w fun e w' => e = .returned (.int .i64 r) ∧ Below w.heap.size w w' := hr ▸ cmp_any h h2 hl hm

set_option maxRecDepth 20000 in
/-- a smaller number divided -/
theorem divide_less {w : World} {v u : Value} {l m : List Nat} (h : Rd eU w v l) (h2 : Rd eU w u m) (hl : clen l ≤ 5000) (hm : clen m ≤ 5000) (hr : cmpN l m = -1) :
    Calls Tryz.prog 99 #[v, u] w fun e w' => ∃ a c, e = .returned (.tuple #[.slice none 0 0, .slice a (trim l).length c]) ∧ Ru w' (.slice a (trim l).length c) (trim l) ∧ Below w.heap.size w w' := by
  have HR := Lib.hid h
  have HR2 := Lib.hid h2
  have HL := Lib.hid hl
  have HM := Lib.hid hm
  have HC := Lib.hid hr
  obtain ⟨a, cap, rfl, hlen⟩ := h.open
  obtain ⟨a2, cap2, rfl, hlen2⟩ := h2.open
  clear h h2 hl hm hr
  go_enter Tryz.func99, Tryz.ntmps99
  go_wp2_with (first
    | (go_at_call 55; (with_reducible refine (cmp_as HR.out HR2.out HL.out HM.out HC.out).mono ?_); rintro e w1 ⟨rfl, hb⟩; have HB := Lib.hid hb; clear hb)
    | (go_at_call 77; (with_reducible refine (trim_sl (HR.out.keep HB.out) HL.out).mono ?_); rintro e w2 ⟨p, q, rfl, ht, hb⟩; have HT := Lib.hid ht; have HB2 := Lib.hid hb; clear ht hb))
  go_ret2
  exact ⟨_, _, rfl, HT.out, HB.out.trans (HB2.out.mono HB.out.size)⟩

set_option maxRecDepth 20000 in
/-- the greatest common divisor of 0 and a number -/
theorem gcd_zero {w : World} {v u : Value} {y : Nat} (h : Rd eU w v []) (h2 : Rd eU w u (limb y)) (hy : 0 < y) :
    Calls Tryz.prog 74 #[v, u] w fun e w' => ∃ a c, e = .returned (.tuple #[.slice a (limb y).length c, .int .i64 0]) ∧ Rd eU w' (.slice a (limb y).length c) (limb y) ∧ Below w.heap.size w w' := by
  have HR := Lib.hid h
  have HR2 := Lib.hid h2
  have HL := Lib.hid (show clen ([] : List Nat) ≤ 512 by decide)
  have HM := Lib.hid (show clen (limb y) ≤ 512 by rw [clen_limb]; split <;> omega)
  have HL' := Lib.hid (show clen ([] : List Nat) ≤ 5000 by decide)
  have HM' := Lib.hid (show clen (limb y) ≤ 5000 by rw [clen_limb]; split <;> omega)
  have HC := Lib.hid (show cmpN ([] : List Nat) (limb y) = -1 by have := cmpN_limb 0 y; rw [if_pos hy] at this; exact this)
  have HTL := Lib.hid (trim_limb y)
  have HLE := Lib.hid (show (limb y).length = 1 by rw [limb_len, if_neg (by omega)])
  obtain ⟨a, cap, rfl, hlen⟩ := h.open
  obtain ⟨a2, cap2, rfl, hlen2⟩ := h2.open
  obtain ⟨L, hL⟩ : ∃ L, limb y = L := ⟨_, rfl⟩
  rw [hL] at h2 hlen2 HR2 HM HM' HC HTL HLE ⊢
  rw [HLE.out] at hlen2 HR2 ⊢
  change Hid (Rd eU w (.slice a 0 cap) []) at HR
  change Calls Tryz.prog 74 #[.slice a 0 cap, _] w _
  clear hL h h2
  go_enter Tryz.func74, Tryz.ntmps74
  go_wp2_with (first
    | (go_at_call 98; (with_reducible refine (large_as HR.out HL.out).mono ?_); rintro e w1 ⟨rfl, rfl⟩)
    | (go_at_call 98; (with_reducible refine (large_as HR2.out HM.out).mono ?_); rintro e w1 ⟨rfl, rfl⟩)
    | (go_at_call 77; (with_reducible refine (trim_sl HR.out HL'.out).mono ?_); rintro e w1 ⟨p1, q1, rfl, ht, hb⟩; rw [show (trim ([] : List Nat)) = [] from rfl] at ht ⊢; rw [List.length_nil] at ht ⊢; have HT := Lib.hid ht; have HB := Lib.hid hb; have HR3 := Lib.hid (HR2.out.keep hb); clear ht hb)
    | (go_at_call 77; (with_reducible refine (trim_sl HR3.out HM'.out).mono ?_); rintro e w2 ⟨p2, q2, rfl, ht, hb⟩; rw [HTL.out] at ht; rw [HTL.out, HLE.out]; rw [HLE.out] at ht; have HT2 := Lib.hid ht; have HT1 := Lib.hid (HT.out.keep hb); have HB2 := Lib.hid (HB.out.trans (hb.mono HB.out.size)); clear ht hb))
  refine wp_loop_rounds 2 ?_
  rw [rounds_succ]
  go_wp2_with (first
    | (go_at_call 99; (with_reducible refine (divide_less HT1.out.rd HT2.out.rd HL'.out HM'.out HC.out).mono ?_); rintro e w3 ⟨p3, q3, rfl, hr, hb⟩; have HT3 := Lib.hid (HT2.out.keep hb); have HB3 := Lib.hid (HB2.out.trans (hb.mono HB2.out.size)); clear hb))
  rw [rounds_succ]
  go_wp2_with fail
  go_ret2
  exact ⟨_, _, rfl, HT3.out.rd, HB3.out⟩

/-- the value of a fraction -/
abbrev fv (neg : Bool) (n d : Value) : Value := .agg #[.bool neg, n, d]
/-- 0 / 1 -/
def ZeroPost (w : World) (e : Ending) (w' : World) : Prop := ∃ a c a2 c2, e = .returned (.tuple #[fv false (.slice a 0 c) (.slice a2 1 c2), .int .i64 0]) ∧ Ru w' (.slice a 0 c) [] ∧ Ru w' (.slice a2 1 c2) [1] ∧ Below w.heap.size w w'

theorem bits1 : bitsN [1] = 1 := by unfold bitsN; simp [clen]; rw [blen_pos (by omega)]; simp [blen_zero]
theorem bits0 : bitsN [] = 0 := by simp [bitsN, clen]

/-- three cells laid in a struct's block -/
theorem put3 {w0 w : World} {b : Nat} {c0 c1 c2 : Value} (h : Holds w b #[c0, c1, c2]) (hb : Below w0.heap.size w0 w) (hB : w0.heap.size ≤ b) (a0 a1 a2 : Value) :
    Holds (((w.setCell ⟨b, 0, none⟩ a0).setCell ⟨b, 1, none⟩ a1).setCell ⟨b, 2, none⟩ a2) b #[a0, a1, a2] ∧ Below w0.heap.size w0 (((w.setCell ⟨b, 0, none⟩ a0).setCell ⟨b, 1, none⟩ a1).setCell ⟨b, 2, none⟩ a2) :=
  ⟨by have := ((h.set 0 a0).set 1 a1).set 2 a2; simpa using this, ((hb.setCell (p := ⟨b, 0, none⟩) hB _).setCell (p := ⟨b, 1, none⟩) hB _).setCell (p := ⟨b, 2, none⟩) hB _⟩
theorem Ru.put3 {w : World} {b : Nat} {t : TypeId} {v : Value} {l : List Nat} (h : Ru w v l) (hb : TyB w b t) (ht : t ≠ 94) (a0 a1 a2 : Value) : Ru (((w.setCell ⟨b, 0, none⟩ a0).setCell ⟨b, 1, none⟩ a1).setCell ⟨b, 2, none⟩ a2) v l :=
  ((h.set hb ht 0 a0).set (hb.setCell 0 a0) ht 1 a1).set ((hb.setCell 0 a0).setCell 1 a1) ht 2 a2

set_option maxRecDepth 20000 in
set_option maxHeartbeats 1000000 in
theorem lowest_zero {w : World} {a a2 : Option Addr} {c c2 : Nat} (h : Rd eU w (.slice a 0 c) []) (h2 : Rd eU w (.slice a2 1 c2) [1]) : Calls Tryz.prog 52 #[.bool false, .slice a 0 c, .slice a2 1 c2] w (ZeroPost w) := by
  have HB0 := Lib.hid (Holds.new w #[.bool false, .slice none 0 0, .slice none 0 0] 27)
  have HTY := Lib.hid (TyB.new w #[.bool false, .slice none 0 0, .slice none 0 0] 27)
  have hba := below_alloc w (.cells #[.bool false, .slice none 0 0, .slice none 0 0] 27)
  have HBA := Lib.hid hba
  have HR := Lib.hid (h.keep hba)
  have HR2 := Lib.hid (show Rd eU (w.alloc (.cells #[.bool false, .slice none 0 0, .slice none 0 0] 27)) (.slice a2 1 c2) (limb 1) from h2.keep hba)
  have HL0 := Lib.hid (show Lims ([] : List Nat) from fun x hx => by cases hx)
  have HL1 := Lib.hid (show Lims [1] from fun x hx => by rw [List.mem_singleton.1 hx]; omega)
  have HK0 := Lib.hid (show clen ([] : List Nat) ≤ 5000 by decide)
  have HK1 := Lib.hid (show clen [1] ≤ 5000 by decide)
  have HB1 := Lib.hid bits1
  have HBZ := Lib.hid bits0
  have HO1 := Lib.hid (show (0 : Nat) < 1 by decide)
  clear h h2 hba
  go_enter Tryz.func52, Tryz.ntmps52
  go_wp2_with (first
    | (go_at_call 74; (with_reducible refine (gcd_zero HR.out HR2.out HO1.out).mono ?_); rintro e w1 ⟨p, q, rfl, ht, hb⟩; rw [show limb 1 = [1] from rfl, List.length_singleton] at ht ⊢; have HT := Lib.hid ht; have HRA := Lib.hid (HR.out.keep hb); have HRB : Hid (Rd eU w1 (.slice a2 1 c2) [1]) := Lib.hid (HR2.out.keep hb); have HBB := Lib.hid hb; have HH := Lib.hid (HB0.out.keep hb); clear ht hb)
    | (go_at_call 75; (with_reducible refine (bits_as HT.out HL1.out HK1.out HB1.out).mono ?_); rintro e w1 ⟨rfl, rfl⟩)
    | (go_at_call 75; (with_reducible refine (bits_as HRA.out HL0.out HK0.out HBZ.out).mono ?_); rintro e w1 ⟨rfl, rfl⟩)
    | (go_at_call 75; (with_reducible refine (bits_as HRB.out HL1.out HK1.out HB1.out).mono ?_); rintro e w1 ⟨rfl, rfl⟩)
    | (go_at_call 77; (with_reducible refine (trim_sl HRA.out HK0.out).mono ?_); rintro e w2 ⟨p1, q1, rfl, ht, hb⟩; rw [show (trim ([] : List Nat)) = [] from rfl] at ht ⊢; rw [List.length_nil] at ht ⊢; have HT1 := Lib.hid ht; have HRB2 := Lib.hid (HRB.out.keep hb); have HH2 := Lib.hid (HH.out.keep hb); have HBB2 := Lib.hid (HBB.out.trans (hb.mono HBB.out.size)); clear ht hb)
    | (go_at_call 77; (with_reducible refine (trim_sl HRB2.out HK1.out).mono ?_); rintro e w3 ⟨p2, q2, rfl, ht, hb⟩; rw [show (trim [1]) = [1] from rfl] at ht ⊢; rw [List.length_singleton] at ht ⊢; have HT2 := Lib.hid ht; have HT3 := Lib.hid (HT1.out.keep hb); have HH3 := Lib.hid (HH2.out.keep hb); have HBB3 := Lib.hid (HBB2.out.trans (hb.mono HBB2.out.size)); obtain ⟨c0, c1, c2, f0, f1, f2, cl⟩ := HH3.out.lay3; clear ht hb))
  have hty := HTY.out.keep HBB3.out
  obtain ⟨hp1, hp2⟩ := put3 HH3.out (HBA.out.trans (HBB3.out.mono HBA.out.size)) (Nat.le_refl _) (.bool false) (.slice p1 0 q1) (.slice p2 1 q2)
  refine bodyPost_ret (v := .tuple #[fv false (.slice p1 0 q1) (.slice p2 1 q2), .int .i64 0]) ?_ rfl ⟨p1, q1, p2, q2, rfl, HT3.out.put3 hty (by decide) _ _ _, HT2.out.put3 hty (by decide) _ _ _, hp2⟩
  obtain ⟨d0, d1, d2, -⟩ := hp1.lay3
  clear c0 c1 c2 f0 f1 f2 cl
  simp [results, Tryz.results52, go_sem, d0, d1, d2]

set_option maxRecDepth 20000 in
set_option maxHeartbeats 1000000 in
/-- fraction.Make(0, 1) -/
theorem fmake_zero (w : World) : Calls Tryz.prog 31 #[.int .i64 0, .int .i64 1] w (ZeroPost w) := by
  have HB0 := Lib.hid (Holds.new w #[.bool false, .slice none 0 0, .slice none 0 0] 27)
  have HTY := Lib.hid (TyB.new w #[.bool false, .slice none 0 0, .slice none 0 0] 27)
  have HBA := Lib.hid (below_alloc w (.cells #[.bool false, .slice none 0 0, .slice none 0 0] 27))
  go_enter Tryz.func31, Tryz.ntmps31
  go_wp2_with (first
    | (go_at_call 53; (with_reducible refine (abs_zero _).mono ?_); rintro e w1 ⟨a, c, rfl, hr, hb⟩; rw [List.length_nil] at hr ⊢; have HR := Lib.hid hr; have HB := Lib.hid hb; clear hr hb)
    | (go_at_call 53; (with_reducible refine (abs_one _).mono ?_); rintro e w2 ⟨a2, c2, rfl, hr, hb⟩; rw [List.length_singleton] at hr ⊢; have HR2 := Lib.hid hr; have HR1 := Lib.hid (HR.out.keep hb); have HB2 := Lib.hid (HB.out.trans (hb.mono HB.out.size)); clear hr hb)
    | (go_at_call 52; (with_reducible refine (lowest_zero HR1.out.rd HR2.out.rd).mono ?_); rintro e w3 ⟨p1, q1, p2, q2, rfl, k1, k2, hb⟩; have HT3 := Lib.hid k1; have HT2 := Lib.hid k2; have HBB3 := Lib.hid (HB2.out.trans (hb.mono HB2.out.size)); have HH3 := Lib.hid (HB0.out.keep HBB3.out); obtain ⟨c0, c1, c2, f0, f1, f2, cl⟩ := HH3.out.lay3; clear k1 k2 hb))
  have hty := HTY.out.keep HBB3.out
  obtain ⟨hp1, hp2⟩ := put3 HH3.out (HBA.out.trans (HBB3.out.mono HBA.out.size)) (Nat.le_refl _) (.bool false) (.slice p1 0 q1) (.slice p2 1 q2)
  refine bodyPost_ret (v := .tuple #[fv false (.slice p1 0 q1) (.slice p2 1 q2), .int .i64 0]) ?_ rfl ⟨p1, q1, p2, q2, rfl, HT3.out.put3 hty (by decide) _ _ _, HT2.out.put3 hty (by decide) _ _ _, hp2⟩
  obtain ⟨d0, d1, d2, -⟩ := hp1.lay3
  clear c0 c1 c2 f0 f1 f2 cl
  simp [results, Tryz.results31, go_sem, d0, d1, d2]
end Go.Proofs.YtgnmolleaengaaaGreat
