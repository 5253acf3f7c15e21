/- The walk of awake. -/
import Derived.Test.YtgnmolleaengaaaGreatRn
import Derived.Test.YtgnmolleaengaaaGreatQo
set_option linter.unusedVariables false
set_option linter.unusedSimpArgs false
set_option linter.unnecessarySimpa false
namespace Go.Proofs.YtgnmolleaengaaaGreat
open Go Go.RowKit

theorem perm_two {α : Type} {L : List α} {a b : α} (h : L.Perm [a, b]) : L = [a, b] ∨ L = [b, a] := by
  match L, h.length_eq with
  | [p, q], _ =>
    have hp : p ∈ [a, b] := h.mem_iff.1 (by simp)
    rcases List.mem_cons.1 hp with rfl | hp
    · have := (List.perm_cons p).1 h
      have := List.perm_singleton.1 this
      exact .inl (by rw [this])
    · obtain rfl : p = b := List.mem_singleton.1 hp
      have h2 := h.trans (List.Perm.swap p a [])
      have := (List.perm_cons p).1 h2
      have := List.perm_singleton.1 this
      exact .inr (by rw [this])

theorem new_one (w : World) : Calls Tryz.prog 12 #[.int .i64 1] w fun e w' => ∃ qb, e = .returned (.tuple #[.pointer (some ⟨qb, 0, none⟩), .int .i64 0]) ∧ Qp w.heap.size qb 1 [] w' ∧ Below w.heap.size w w' :=
  new_as (n := 1) (by omega) (by omega) w
theorem make12 (w : World) : Calls Tryz.prog 27 #[.int .i64 1, .int .i64 2] w (FePost w 1 2) := by
  have := rfmake_as (n := 1) (d := 2) (by omega) (by omega) (by omega) w
  rw [show 1 / Nat.gcd 1 2 = 1 by decide, show 2 / Nat.gcd 1 2 = 2 by decide] at this
  exact this
abbrev jobA : Jb := ⟨0, 0, 3, 0, 1, 2⟩
abbrev jobB : Jb := ⟨1, 0, 1, 0, 1, 2⟩
theorem okA : OkJ jobA := by unfold OkJ; simp
theorem okB : OkJ jobB := by unfold OkJ; simp
/-- the second put, and what it leaves -/
theorem two_sorted {y z : En} (hy : y.j = jobA) (hz : z.j = jobB) {L : List En} (h : L.Perm [y, z]) (hs : L.Pairwise (fun x y => ltE y x = false)) : L = [z, y] := by
  rcases perm_two h with rfl | rfl
  · have h1 : ltE z y = false := by simpa using hs
    have h2 : ltE z y = true := by
      rw [ltE_iff (by rw [hz]; exact okB) (by rw [hy]; exact okA), hy, hz]
      exact .inl (by decide)
    rw [h1] at h2
    cases h2
  · rfl
def AwPost (B qb : Nat) (L : List En) (r : Int) (w : World) (e : Ending) (w' : World) : Prop := e = .returned (.int .i64 r) ∧ Qp B qb 1 L w' ∧ Qt B w w'
theorem put_first {B qb : Nat} {w : World} (h : Qp B qb 1 [] w) (hB : B ≤ w.heap.size) {an ad : Option Addr} {anc adc : Nat} (h1 : Ru w (.slice an (limb 1).length anc) (limb 1)) (h2 : Ru w (.slice ad (limb 2).length adc) (limb 2)) :
    Calls Tryz.prog 16 #[.pointer (some ⟨qb, 0, none⟩), jv jobA (.slice an (limb 1).length anc) (.slice ad (limb 2).length adc)] w fun e w' => ∃ y, y.j = jobA ∧ y.run = false ∧ y.held = false ∧ AwPost B qb [y] 0 w e w' := by
  refine (put_new h hB (by simp) okA h1 h2 rfl).mono ?_
  rintro e w' ⟨he, y, L', e1, e2, e3, hp, -, hq, ht⟩
  obtain rfl : L' = [y] := List.perm_singleton.1 hp
  exact ⟨y, e1, e2, e3, he, hq, ht⟩
theorem put_second {B qb : Nat} {w : World} {y : En} (hy : y.j = jobA) (h : Qp B qb 1 [y] w) (hB : B ≤ w.heap.size) {an ad : Option Addr} {anc adc : Nat} (h1 : Ru w (.slice an (limb 1).length anc) (limb 1)) (h2 : Ru w (.slice ad (limb 2).length adc) (limb 2)) :
    Calls Tryz.prog 16 #[.pointer (some ⟨qb, 0, none⟩), jv jobB (.slice an (limb 1).length anc) (.slice ad (limb 2).length adc)] w fun e w' => ∃ z, z.j = jobB ∧ z.run = false ∧ z.held = false ∧ AwPost B qb [z, y] 0 w e w' := by
  refine (put_new h hB (by simp) okB h1 h2 (idxF_none fun x hx => by rw [List.mem_singleton.1 hx]; simp [keyB, En.key, hy])).mono ?_
  rintro e w' ⟨he, z, L', e1, e2, e3, hp, hs, hq, ht⟩
  have := two_sorted hy e1 hp hs
  subst this
  exact ⟨z, e1, e2, e3, he, hq, ht⟩

/-- what Schedule answers, with known lists -/
def SchedIs (B qb : Nat) (L : List En) (S P : List Ky) (n1 n2 : Nat) (w : World) (e : Ending) (w' : World) : Prop :=
  ∃ a c a2 c2, e = .returned (.tuple #[.slice a n1 c, .slice a2 n2 c2]) ∧ Rt eK 33 w' (.slice a n1 c) S ∧ Rt eK 33 w' (.slice a2 n2 c2) P ∧ Qp B qb 1 L w' ∧ Qt B w w'
theorem perm_short {α : Type} {L M : List α} (h : L.Perm M) (hm : M.length ≤ 1) : L = M := by
  match M, hm with
  | [], _ => exact List.perm_nil.1 h
  | [x], _ => exact List.perm_singleton.1 h
  | _ :: _ :: _, hm => simp at hm
theorem schedule_short {B qb : Nat} {L : List En} {w : World} (h : Qp B qb 1 L w) (hB : B ≤ w.heap.size) (hl : L.length ≤ 1000) (h1 : (schS (slotsL 1 L) L).length ≤ 1) (h2 : (schP (slotsL 1 L) L).length ≤ 1) :
    Calls Tryz.prog 25 #[.pointer (some ⟨qb, 0, none⟩)] w (SchedIs B qb (schL (slotsL 1 L) L) (schS (slotsL 1 L) L) (schP (slotsL 1 L) L) (schS (slotsL 1 L) L).length (schP (slotsL 1 L) L).length w) := by
  refine (schedule_as h hB hl (by omega) (by omega)).mono ?_
  rintro e w' ⟨a, S', c, a2, P', c2, he, ⟨hp, -⟩, ⟨hp2, -⟩, r1, r2, hq, ht⟩
  have e1 := perm_short hp h1
  have e2 := perm_short hp2 h2
  subst e1 e2
  exact ⟨a, c, a2, c2, he, r1, r2, hq, ht⟩
theorem sched_first {B qb : Nat} {w : World} {y : En} (hy : y.j = jobA) (hr : y.run = false) (hh : y.held = false) (h : Qp B qb 1 [y] w) (hB : B ≤ w.heap.size) : Calls Tryz.prog 25 #[.pointer (some ⟨qb, 0, none⟩)] w (SchedIs B qb [setRun true y] [(0, 0)] [] 1 0 w) := by
  have e0 : slotsL 1 [y] = 1 := by simp [slotsL, hh]
  have e1 : schS 1 [y] = [(0, 0)] := by simp [schS, runOf, hr, hh, En.key, hy]
  have e2 : schP 1 [y] = [] := by simp [schP, runOf, hr, hh]
  have e3 : schL 1 [y] = [setRun true y] := by simp [schL, runOf, hh]
  have := schedule_short h hB (by simp) (by rw [e0, e1]; simp) (by rw [e0, e2]; simp)
  rw [e0, e1, e2, e3] at this
  exact this
theorem sched_second {B qb : Nat} {w : World} {y z : En} (hy : y.j = jobA) (hh : y.held = false) (hz : z.j = jobB) (hr2 : z.run = false) (hh2 : z.held = false) (h : Qp B qb 1 [z, setRun true y] w) (hB : B ≤ w.heap.size) :
    Calls Tryz.prog 25 #[.pointer (some ⟨qb, 0, none⟩)] w (SchedIs B qb [setRun true z, setRun false (setRun true y)] [(1, 0)] [(0, 0)] 1 1 w) := by
  have e0 : slotsL 1 [z, setRun true y] = 1 := by simp [slotsL, hh, hh2, setRun]
  have e1 : schS 1 [z, setRun true y] = [(1, 0)] := by simp [schS, runOf, cnt, hr2, hh2, hh, En.key, hz, setRun]
  have e2 : schP 1 [z, setRun true y] = [(0, 0)] := by simp [schP, runOf, cnt, hr2, hh2, hh, En.key, hy, setRun]
  have e3 : schL 1 [z, setRun true y] = [setRun true z, setRun false (setRun true y)] := by simp [schL, runOf, cnt, hh2, hh, setRun]
  have := schedule_short h hB (by simp) (by rw [e0, e1]; simp) (by rw [e0, e2]; simp)
  rw [e0, e1, e2, e3] at this
  exact this
end Go.Proofs.YtgnmolleaengaaaGreat

/- The walk of awake. -/
namespace Go.Proofs.YtgnmolleaengaaaGreat
open Go Go.RowKit

theorem setRun_j {y : En} {j : Jb} {r : Bool} (h : y.j = j) : (setRun r y).j = j := h
theorem rd_one (w : World) (k : Ky) : Rd eK (w.alloc (.cells #[.int .i64 k.1, .int .i64 k.2] 33)) (.slice (some ⟨w.heap.size, 0, none⟩) 1 1) [k] := by
  have := Rd.new (E := eK) w [k] (by simp) 33
  exact this

set_option maxRecDepth 20000 in
set_option maxHeartbeats 4000000 in
theorem awake_any (w : World) : Calls Tryz.prog 11 #[] w fun e w' => e = .returned (.bool true) ∧ Below w.heap.size w w' := by
  go_enter Tryz.func11, Tryz.ntmps11
  go_wp2_with (first
    | (go_at_call 12; (with_reducible refine (new_one _).mono ?_); rintro e w1 ⟨qb, rfl, hq, hb⟩; have HQ1 := Lib.hid hq; have HB1 := Lib.hid hb; clear hq hb)
    | (go_at_call 27; (with_reducible refine (make12 _).mono ?_); rintro e w2 ⟨pa, pc, qa, qc, rfl, k1, k2, hb⟩; have hx := below_alloc w2 (.cells #[.bool false, .slice pa (limb 1).length pc, .slice qa (limb 2).length qc] 27); have HB2 := Lib.hid ((HB1.out.trans (hb.mono HB1.out.size)).alloc (HB1.out.trans (hb.mono HB1.out.size)).size (.cells #[.bool false, .slice pa (limb 1).length pc, .slice qa (limb 2).length qc] 27)); have HQ2 := Lib.hid ((HQ1.out.keep hb).keep hx); have K1 := Lib.hid (k1.keep hx); have K2 := Lib.hid (k2.keep hx); have HBX := Lib.hid (Holds.new w2 #[.bool false, .slice pa (limb 1).length pc, .slice qa (limb 2).length qc] 27); have HTY := Lib.hid (TyB.new w2 #[.bool false, .slice pa (limb 1).length pc, .slice qa (limb 2).length qc] 27); have HT2 := Lib.hid (Qt.of_below HB2.out w.heap.size); clear k1 k2 hb hx; obtain ⟨s0, s1, s2, -⟩ := HBX.out.lay3)
    | (go_at_call 16; (with_reducible refine (put_first HQ2.out HB2.out.size K1.out K2.out).mono ?_); rintro e w3 ⟨y, y1, y2, y3, rfl, hq, ht⟩; have HQ3 := Lib.hid hq; have HT3 := Lib.hid ht; have Y1 := Lib.hid y1; have Y2 := Lib.hid y2; have Y3 := Lib.hid y3; clear hq ht y1 y2 y3)
    | (go_at_call 25; (with_reducible refine (sched_first Y1.out Y2.out Y3.out HQ3.out (Nat.le_trans HB2.out.size HT3.out.size)).mono ?_); rintro e w4 ⟨a1, c1, a2, c2, rfl, r1, r2, hq, ht⟩; have HQ4 := Lib.hid hq; have HT4 := Lib.hid ((HT2.out.trans HT3.out).trans ht); have RA := Lib.hid r1; have K3 := Lib.hid ((K1.out.qt HT3.out).qt ht); have K4 := Lib.hid ((K2.out.qt HT3.out).qt ht); have HBX4 := Lib.hid (HBX.out.same (Nat.le_trans HT3.out.size ht.size) ((ht.block _ (HT3.out.ty _ 27 (by decide) HTY.out).lt (.inr ⟨fun q => absurd (q.uniq (HT3.out.ty _ 27 (by decide) HTY.out)) (by decide), fun q => absurd (q.uniq (HT3.out.ty _ 27 (by decide) HTY.out)) (by decide)⟩)).trans (HT3.out.block _ HTY.out.lt (.inr ⟨fun q => absurd (q.uniq HTY.out) (by decide), fun q => absurd (q.uniq HTY.out) (by decide)⟩)))); obtain ⟨u0, u1, u2, -⟩ := HBX4.out.lay3; clear hq ht r1 r2 s0 s1 s2 K1 K2)
    | (go_at_call 16; (with_reducible refine (put_second (setRun_j Y1.out) HQ4.out HT4.out.size K3.out K4.out).mono ?_); rintro e w5 ⟨z, z1, z2, z3, rfl, hq, ht⟩; have HQ5 := Lib.hid hq; have HT5 := Lib.hid (HT4.out.trans ht); have RA5 := Lib.hid (RA.out.qt ht (by decide) (by decide)); have Z1 := Lib.hid z1; have Z2 := Lib.hid z2; have Z3 := Lib.hid z3; clear hq ht z1 z2 z3)
    | (go_at_call 25; (with_reducible refine (sched_second Y1.out Y3.out Z1.out Z2.out Z3.out HQ5.out HT5.out.size).mono ?_); rintro e w6 ⟨a3, c3, a4, c4, rfl, r1, r2, hq, ht⟩; have HT6 := Lib.hid (HT5.out.trans ht); have RA6 := Lib.hid (RA5.out.qt ht (by decide) (by decide)); have RB6 := Lib.hid r1; have RC6 := Lib.hid r2; have KE := Lib.hid (samekeys_as _ _ [(0, 0)] _ (RA6.out.keep (below_alloc w6 (.cells #[.int .i64 0, .int .i64 0] 33))).rd (rd_one w6 (0, 0))); clear hq ht r1 r2)
    | (go_at_call 26; (with_reducible refine KE.out.mono ?_); rintro e w7 ⟨rfl, hb⟩; have hb2 := (below_alloc w6 (.cells #[.int .i64 0, .int .i64 0] 33)).trans (hb.mono (below_alloc w6 (.cells #[.int .i64 0, .int .i64 0] 33)).size); have HT7 := Lib.hid (HT6.out.keep hb2); have RB7 := Lib.hid (RB6.out.keep hb2); have RC7 := Lib.hid (RC6.out.keep hb2); have KF := Lib.hid (samekeys_as _ _ [(1, 0)] _ (RB7.out.keep (below_alloc w7 (.cells #[.int .i64 1, .int .i64 0] 33))).rd (rd_one w7 (1, 0))); clear hb hb2)
    | (go_at_call 26; (with_reducible refine KF.out.mono ?_); rintro e w8 ⟨rfl, hb⟩; have hb2 := (below_alloc w7 (.cells #[.int .i64 1, .int .i64 0] 33)).trans (hb.mono (below_alloc w7 (.cells #[.int .i64 1, .int .i64 0] 33)).size); have HT8 := Lib.hid (HT7.out.keep hb2); have RC8 := Lib.hid (RC7.out.keep hb2); have KG := Lib.hid (samekeys_as _ _ [(0, 0)] _ (RC8.out.keep (below_alloc w8 (.cells #[.int .i64 0, .int .i64 0] 33))).rd (rd_one w8 (0, 0))); clear hb hb2)
    | (go_at_call 26; (with_reducible refine KG.out.mono ?_); rintro e w9 ⟨rfl, hb⟩; have hb2 := (below_alloc w8 (.cells #[.int .i64 0, .int .i64 0] 33)).trans (hb.mono (below_alloc w8 (.cells #[.int .i64 0, .int .i64 0] 33)).size); have HT9 := Lib.hid (HT8.out.keep hb2); clear hb hb2))
  go_ret
  exact ⟨rfl, HT9.out.below (Nat.le_refl _)⟩
end Go.Proofs.YtgnmolleaengaaaGreat
