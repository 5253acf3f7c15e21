/- The walk of MovePlays. -/
import Derived.Test.YtpkgcklnknbbcaaO1
import Derived.Laws.OwnMore
import Derived.OwnWalk
import Derived.Deep.DeepCutAuto
set_option linter.unusedVariables false
set_option linter.unusedSimpArgs false
set_option linter.unnecessarySimpa false
namespace Go.Proofs.Ytpkgcklnknbbcaa
open Go.RowKit

def flatE (es : List Ev) : List Value := es.flatMap fun e => [.int .i64 e.1, .int .i64 e.2]
theorem flatE_length (es : List Ev) : (flatE es).length = es.length * 2 := by
  induction es with
  | nil => rfl
  | cons e es ih => simp [flatE] at ih ⊢; omega
theorem flatE_get (es : List Ev) (i : Nat) (h : i < es.length) : (flatE es)[i * 2]? = some (.int .i64 (es.getD i (0, 0)).1) ∧ (flatE es)[i * 2 + 1]? = some (.int .i64 (es.getD i (0, 0)).2) := by
  induction es generalizing i with
  | nil => simp at h
  | cons e es ih =>
    cases i with
    | zero => simp [flatE]
    | succ i =>
      have := ih i (by simpa using h)
      have e1 : (i + 1) * 2 = i * 2 + 2 := by omega
      rw [e1]
      simpa [flatE] using this
theorem flatE_snoc (es : List Ev) (e : Ev) : flatE (es ++ [e]) = flatE es ++ [.int .i64 e.1, .int .i64 e.2] := by simp [flatE]

theorem evs_of_owns {w : World} {B : Nat} {v : Value} {es : List Ev} (h : w.ownsRow B 32 2 v es.length (flatE es)) : Evs w v es := by
  obtain ⟨hl, hh⟩ := h
  rcases hh with ⟨rfl, hn⟩ | ⟨g, cap, cur, rfl, hb, hg, h1, h2, h3, h4⟩
  · exact ⟨none, 0, by rw [hn], by omega, fun i hi => by omega⟩
  · unfold maxLen at h2
    refine ⟨some ⟨g, 0, none⟩, cap, rfl, by omega, fun i hi => ⟨g, 0, rfl, (Array.getElem?_eq_some_iff.1 hg).1, ?_, ?_⟩⟩
    · have := (flatE_get es i hi).1
      rw [← h4] at this
      rw [List.getElem?_take_of_lt (by omega)] at this
      simp only [World.cell?, hg]
      simpa using this
    · have := (flatE_get es i hi).2
      rw [← h4] at this
      rw [List.getElem?_take_of_lt (by omega)] at this
      simp only [World.cell?, hg]
      simpa using this

theorem info32 : (Try.prog.info? 32).map (fun i => (i.zero, i.size, i.bytes)) = some (some (.agg #[.int .i64 0, .int .i64 0]), 2, 16) := by kernel_rfl

theorem Mm.grown {w0 w w' : World} {b : Nat} {c : Array Value} {row : Option Nat} (h : Mm w0 w [(b, c)]) (hg : w.grownBy w' row) (hr : ∀ k, row = some k → b + 1 ≤ k) : Mm w0 w' [(b, c)] := by
  have hb : Below (b + 1) w w' := (Below.refl _ _).grown hg (by have := h.lt (k := 0) rfl; omega) hr
  have h0 := h.at (k := 0) rfl
  refine ⟨h.below.trans (hb.mono (by have := h.ge (k := 0) rfl; omega)), fun x hx => ?_, by simp⟩
  simp at hx
  subst hx
  exact ⟨h.ge (k := 0) rfl, Nat.lt_of_lt_of_le h0.lt hb.size, fun i v hv => (hb.cell (p := ⟨b, i, none⟩) (by show b < b + 1; omega)).trans (h0.cell i v hv), h0.thaw.below hb (by omega)⟩

theorem hnews2 {w : World} {b : Nat} {a c : Value} (h0 : w.cell? ⟨b, 0, none⟩ = some a) (h1 : w.cell? ⟨b, 1, none⟩ = some c) : ∀ (j : Nat) (u : Value), ([a, c] : List Value)[j]? = some u → w.cell? ((⟨b, 0, none⟩ : Addr).add j) = some u := by
  intro j u hu
  have hj : j = 0 ∨ j = 1 := by
    have := (List.getElem?_eq_some_iff.1 hu).1
    simp at this
    omega
  rcases hj with rfl | rfl
  · simp at hu; subst hu; simpa [Addr.add] using h0
  · simp at hu; subst hu; simpa [Addr.add] using h1

theorem hnewsA {w : World} {b : Nat} {a c : Value} {t : TypeId} (hb : b = w.heap.size) : ∀ (j : Nat) (u : Value), ([a, c] : List Value)[j]? = some u → (w.alloc (.cells #[a, c] t)).cell? ((⟨b, 0, none⟩ : Addr).add j) = some u := by
  subst hb
  exact hnews2 ((Holds.new w #[a, c] t).cell 0 a rfl) ((Holds.new w #[a, c] t).cell 1 c rfl)
theorem one2 {a c : Int} : ∀ u ∈ ([.int .i64 a, .int .i64 c] : List Value), u.oneCell' = true := by
  intro u hu
  simp at hu
  rcases hu with rfl | rfl <;> rfl
theorem own_ge {w : World} {B : Nat} {v : Value} {n : Nat} {xs : List Value} (h : w.ownsRow B 32 2 v n xs) : ∀ k, v.ownBlock = some k → B ≤ k := fun k hk => (h.lt k hk).1

def Both (A B : World → Prop) (w : World) : Prop := A w ∧ B w

theorem owns_set {w : World} {B : Nat} {v : Value} {n : Nat} {xs : List Value} {b : Nat} (h : w.ownsRow B 32 2 v n xs) (hg : ∀ g, v.ownBlock = some g → g ≠ b) (i : Nat) (u : Value) : (w.setCell ⟨b, i, none⟩ u).ownsRow B 32 2 v n xs := by
  obtain ⟨hl, hh⟩ := h
  refine ⟨hl, ?_⟩
  rcases hh with h | ⟨g, cap, cur, rfl, hb, hc, h1, h2, h3, h4⟩
  · exact .inl h
  · exact .inr ⟨g, cap, cur, rfl, hb, (Below.heap_setCell w _ _ g (hg g rfl)).trans hc, h1, h2, h3, h4⟩

theorem play_as {p s v : Int} {d : Bool} {es : List Ev} {p' s' v' : Int} {d' : Bool} {n' : Int} (h : playF (p, s, v, d) es 0 = ((p', s', v', d'), n')) {vl : Value} {w : World} (he : Evs w vl es) (hv1 : -9223372036854775808 ≤ v) (hv2 : v ≤ 9223372036854775807) :
    Calls Try.prog 23 #[.agg #[.int .i64 p, .int .i64 s, .int .i64 v, .bool d], vl] w fun e w' => e = .returned (.tuple #[.agg #[.int .i64 p', .int .i64 s', .int .i64 v', .bool d'], .int .i64 n']) ∧ Below w.heap.size w w' := by
  have := play_any p s v d es vl w he hv1 hv2
  rw [h] at this
  exact this
theorem refPlay_as {p s v : Int} {d : Bool} {es : List Ev} {p' s' v' : Int} {d' : Bool} {n' : Int} (h : playF (p, s, v, d) es 0 = ((p', s', v', d'), n')) {vl : Value} {w : World} (he : Evs w vl es) :
    Calls Try.prog 24 #[.agg #[.int .i64 p, .int .i64 s, .int .i64 v, .bool d], vl] w fun e w' => e = .returned (.tuple #[.agg #[.int .i64 p', .int .i64 s', .int .i64 v', .bool d'], .int .i64 n']) ∧ Below w.heap.size w w' := by
  have := refPlay_any p s v d es vl w he
  rw [h] at this
  exact this

/-- the events that a law plays -/
def nearE (near : Bool) (S : Int) (e : Ev) : Ev := if near then (1 + e.1 % 5, e.2 % S) else e


set_option maxRecDepth 100000 in
set_option maxHeartbeats 4000000 in
theorem plays_far (p s v : Int) (d : Bool) (vl : Value) (es : List Ev) (w : World) (he : Evs w vl es) (hE : ∀ e ∈ es, In64 e.1 ∧ In64 e.2) (hp : In64 p) (hs : In64 s) (hv : In64 v) :
    Calls Try.prog 5 #[.agg #[.int .i64 p, .int .i64 s, .int .i64 v, .bool d], vl, .bool false] w (RetB true w) := by
  obtain ⟨a, cap, rfl, hl, hi⟩ := he
  have HI := Lib.hid hi
  have HE := Lib.hid hE
  have HP := Lib.hid (show (-9223372036854775808 ≤ p ∧ p ≤ 9223372036854775807) ∧ (-9223372036854775808 ≤ s ∧ s ≤ 9223372036854775807) ∧ (-9223372036854775808 ≤ v ∧ v ≤ 9223372036854775807) from And.intro hp (And.intro hs hv))
  obtain ⟨n, hln⟩ : ∃ n, n = es.length := ⟨_, rfl⟩
  have HL := Lib.hid hln
  rw [← hln] at hl ⊢
  clear hi hp hs hv hE hln
  by_cases h60 : 60 < n
  · have hd1 : decide ((60 : Int) < (n : Int)) = true := by simp; omega
    go_enter Try.func5, Try.ntmps5
    go_wp2_with (go_at_call 13; refine (awake_any _).mono ?_; rintro e w1 ⟨rfl, hb1⟩; have HB := Lib.hid ((below_of_allocs _).trans (hb1.mono (by simp))))
    go_ret
    exact ⟨rfl, HB.out⟩
  have hd1 : decide ((60 : Int) < (n : Int)) = false := by simp; omega
  obtain ⟨i0, hi0, hz0, hz1, hz2⟩ := info_parts info32
  have HM2 := Lib.hid (show Mm w _ [(w.heap.size, #[.int .i64 p, .int .i64 s, .int .i64 v, .bool d])] from Mm.box _ 23)
  have HBV := Lib.hid HP.out.2.2
  go_enter Try.func5, Try.ntmps5
  go_wp2_with fail
  (go_loopw [8, 7] (fun i mv wr => ∃ (k : Nat) (m0 : Value), k ≤ n ∧ i = .int .i64 k ∧ m0 = mv ∧ Mm w wr [(w.heap.size, #[.int .i64 p, .int .i64 s, .int .i64 v, .bool d])] ∧ Hid (wr.ownsRow (w.heap.size + 1) 32 2 m0 k (flatE ((es.take k).map (nearE false s))))) (fun i _ _ => n - (intOf i).toNat)
   case atStart => exact ⟨0, _, by omega, rfl, rfl, HM2.out, Lib.hid (World.ownsRow_nil _ _ _ _)⟩
   case round =>
     clear HM2
     rename World => wr
     obtain ⟨k, mv, hkn, rfl, rfl, hM, HO⟩ := hrel
     have HM := Lib.hid hM
     clear hM
     by_cases hlt : k < n
     · obtain ⟨b, off, rfl, hbs, hek, het⟩ := HI.out k (by rw [← HL.out]; exact hlt)
       have hk' : k < es.length := by rw [← HL.out]; exact hlt
       have h64 := Lib.hid (HE.out (es.getD k (0, 0)) (by simp [List.getD, hk']))
       have HSN := Lib.hid (show (es.take (k + 1)).map (nearE false s) = (es.take k).map (nearE false s) ++ [nearE false s (es.getD k (0, 0))] by rw [List.take_succ_eq_append_getElem hk', List.map_append]; simp [List.getD, hk'])
       generalize es.getD k (0, 0) = E at *
       obtain ⟨ek, et⟩ := E
       have HB64 := Lib.hid (show ((-9223372036854775808 ≤ ek ∧ ek ≤ 9223372036854775807) ∧ (-9223372036854775808 ≤ et ∧ et ≤ 9223372036854775807)) from h64.out)
       have hek' := (HM.out.below.cell (p := ⟨b, off + k * 2, none⟩) hbs).trans hek
       have het' := (HM.out.below.cell (p := ⟨b, off + k * 2 + 1, none⟩) hbs).trans het
       clear hek het h64
       (go_wp2_with (at_builtin; refine wpList_append_own _ rfl (.tmp 42) (.tmp 44) 40 rfl (w.heap.size + 1) 32 i0 (.agg #[.int .i64 0, .int .i64 0]) 2 16 Try.underlying40 hi0 hz0 hz1 hz2 rfl (by decide) mv k _ rfl ((HO.out.alloc _).alloc _) ⟨wr.heap.size + 1, 0, none⟩ 1 1 [.int .i64 ek, .int .i64 et] rfl rfl (hnewsA (by simp)) one2 (by unfold maxLen; omega) (by omega) (by simp; have := HM.out.lt (k := 0) rfl; omega) ?_; intro v' w5 hown5 hgrow5 hnil5; have HM5 := Lib.hid (((HM.out.alloc _).alloc _).grown hgrow5 (own_ge HO.out)); have HO5 := Lib.hid hown5; clear hown5 hgrow5 hnil5)
        go_roundw
        case rel => exact ⟨k + 1, v', by omega, by go_num, rfl, HM5.out, Lib.hid (by rw [HSN.out, flatE_snoc]; exact HO5.out)⟩
        case measure => simp [intOf]; omega)
     · have hk' : k = n := by omega
       have HKN := Lib.hid hk'
       have HEV := Lib.hid (show Evs wr mv (es.map (nearE false s)) by
         refine evs_of_owns (B := w.heap.size + 1) ?_
         have h1 := HO.out
         have h2 := HKN.out
         have h3 := HL.out
         rw [List.length_map, ← h3]
         rw [h2, List.take_of_length_le (by omega)] at h1
         exact h1)
       obtain ⟨⟨⟨q1, q2, q3, q4⟩, nq⟩, hY⟩ : ∃ y, playF (p, s, v, d) (es.map (nearE false s)) 0 = y := ⟨_, rfl⟩
       have HY := Lib.hid hY
       clear hY hk'
       (obtain ⟨m00, m01, m02, m03, m00f, m01f, m02f, m03f, m0l⟩ := (HM).out.lay4 0 rfl)
       go_wp2_with (first
         | (go_at_call 23; refine (play_as HY.out HEV.out HBV.out.1 HBV.out.2).mono ?_; rintro e w1 ⟨rfl, hb1⟩; have HM1 := Lib.hid (HM.out.call hb1); have HEV1 := Lib.hid (HEV.out.below hb1 (Nat.le_refl _)); clear m00 m01 m02 m03 m00f m01f m02f m03f m0l; (obtain ⟨m00, m01, m02, m03, m00f, m01f, m02f, m03f, m0l⟩ := (HM1).out.lay4 0 rfl); clear hb1)
         | (go_at_call 24; refine (refPlay_as HY.out (HEV1.out.below (below_of_allocs _) (Nat.le_refl _))).mono ?_; rintro e w2 ⟨rfl, hb1⟩; have HM3 := Lib.hid ((HM1.out.push w1.heap.size #[.int .i64 q1, .int .i64 q2, .int .i64 q3, .bool q4] 23 rfl).call hb1); clear m00 m01 m02 m03 m00f m01f m02f m03f m0l; (obtain ⟨m00, m01, m02, m03, m00f, m01f, m02f, m03f, m0l⟩ := (HM3).out.lay4 0 rfl; obtain ⟨m10, m11, m12, m13, m10f, m11f, m12f, m13f, m1l⟩ := (HM3).out.lay4 1 rfl); clear hb1)
         | (go_at_call 13; refine (awake_any _).mono ?_; rintro e w3 ⟨rfl, hb1⟩; have HM4 := Lib.hid ((HM3.out.push w2.heap.size #[.int .i64 q1, .int .i64 q2, .int .i64 q3, .bool q4] 23 rfl).call hb1); clear m00 m01 m02 m03 m00f m01f m02f m03f m0l m10 m11 m12 m13 m10f m11f m12f m13f m1l; (obtain ⟨m00, m01, m02, m03, m00f, m01f, m02f, m03f, m0l⟩ := (HM4).out.lay4 0 rfl; obtain ⟨m10, m11, m12, m13, m10f, m11f, m12f, m13f, m1l⟩ := (HM4).out.lay4 1 rfl; obtain ⟨m20, m21, m22, m23, m20f, m21f, m22f, m23f, m2l⟩ := (HM4).out.lay4 2 rfl); clear hb1))
       go_ret
       exact ⟨rfl, HM4.out.below⟩)

set_option maxRecDepth 100000 in
set_option maxHeartbeats 4000000 in
theorem plays_near (p s v : Int) (d : Bool) (vl : Value) (es : List Ev) (w : World) (he : Evs w vl es) (hE : ∀ e ∈ es, In64 e.1 ∧ In64 e.2) (hp : In64 p) (hs : In64 s) (hv : In64 v) :
    Calls Try.prog 5 #[.agg #[.int .i64 p, .int .i64 s, .int .i64 v, .bool d], vl, .bool true] w (RetB true w) := by
  obtain ⟨a, cap, rfl, hl, hi⟩ := he
  obtain ⟨p', s', v', hn, hkv⟩ := near_valid p s v d
  have HN := Lib.hid hn
  have HBV := Lib.hid (valid_i64 hkv)
  have hS1 : 1 ≤ s' := (valid_bounds hkv).1
  have hS4 : s' ≤ 4 := (valid_bounds hkv).2.1
  have HI := Lib.hid hi
  have HE := Lib.hid hE
  have HP := Lib.hid (show (-9223372036854775808 ≤ p ∧ p ≤ 9223372036854775807) ∧ (-9223372036854775808 ≤ s ∧ s ≤ 9223372036854775807) ∧ (-9223372036854775808 ≤ v ∧ v ≤ 9223372036854775807) from And.intro hp (And.intro hs hv))
  obtain ⟨n, hln⟩ : ∃ n, n = es.length := ⟨_, rfl⟩
  have HL := Lib.hid hln
  rw [← hln] at hl ⊢
  clear hi hp hs hv hE hln hn hkv
  by_cases h60 : 60 < n
  · have hd1 : decide ((60 : Int) < (n : Int)) = true := by simp; omega
    go_enter Try.func5, Try.ntmps5
    go_wp2_with (go_at_call 13; refine (awake_any _).mono ?_; rintro e w1 ⟨rfl, hb1⟩; have HB := Lib.hid ((below_of_allocs _).trans (hb1.mono (by simp))))
    go_ret
    exact ⟨rfl, HB.out⟩
  have hd1 : decide ((60 : Int) < (n : Int)) = false := by simp; omega
  obtain ⟨i0, hi0, hz0, hz1, hz2⟩ := info_parts info32
  go_enter Try.func5, Try.ntmps5
  go_wp2_with (go_at_call 15; refine (near_as HN.out _ HP.out.1 HP.out.2.1 HP.out.2.2).mono ?_; rintro e w1 ⟨rfl, hb1⟩; have HM1 := Lib.hid ((Mm.box _ _).call hb1); (obtain ⟨m00, m01, m02, m03, m00f, m01f, m02f, m03f, m0l⟩ := (HM1).out.lay4 0 rfl); clear hb1)
  have HM2 := Lib.hid (show Mm w _ [(w.heap.size, #[.int .i64 p', .int .i64 s', .int .i64 v', .bool d])] from (HM1.out.put4 0 rfl _ _ _ _))
  clear m00 m01 m02 m03 m00f m01f m02f m03f m0l
  (go_loopw [8, 7] (fun i mv wr => ∃ (k : Nat) (m0 : Value), k ≤ n ∧ i = .int .i64 k ∧ m0 = mv ∧ Mm w wr [(w.heap.size, #[.int .i64 p', .int .i64 s', .int .i64 v', .bool d])] ∧ Hid (wr.ownsRow (w.heap.size + 1) 32 2 m0 k (flatE ((es.take k).map (nearE true s'))))) (fun i _ _ => n - (intOf i).toNat)
   case atStart => exact ⟨0, _, by omega, rfl, rfl, HM2.out, Lib.hid (World.ownsRow_nil _ _ _ _)⟩
   case round =>
     clear HM2
     rename World => wr
     obtain ⟨k, mv, hkn, rfl, rfl, hM, HO⟩ := hrel
     have HM := Lib.hid hM
     clear hM
     by_cases hlt : k < n
     · obtain ⟨b, off, rfl, hbs, hek, het⟩ := HI.out k (by rw [← HL.out]; exact hlt)
       have hk' : k < es.length := by rw [← HL.out]; exact hlt
       have h64 := Lib.hid (HE.out (es.getD k (0, 0)) (by simp [List.getD, hk']))
       have HSN := Lib.hid (show (es.take (k + 1)).map (nearE true s') = (es.take k).map (nearE true s') ++ [nearE true s' (es.getD k (0, 0))] by rw [List.take_succ_eq_append_getElem hk', List.map_append]; simp [List.getD, hk'])
       generalize es.getD k (0, 0) = E at *
       obtain ⟨ek, et⟩ := E
       have HB64 := Lib.hid (show ((-9223372036854775808 ≤ ek ∧ ek ≤ 9223372036854775807) ∧ (-9223372036854775808 ≤ et ∧ et ≤ 9223372036854775807)) from h64.out)
       have hek' := (HM.out.below.cell (p := ⟨b, off + k * 2, none⟩) hbs).trans hek
       have het' := (HM.out.below.cell (p := ⟨b, off + k * 2 + 1, none⟩) hbs).trans het
       clear hek het h64
       (obtain ⟨n5, hn5⟩ : ∃ n5, n5 = ek % 5 := ⟨_, rfl⟩
        obtain ⟨t, ht⟩ : ∃ t, t = et % s' := ⟨_, rfl⟩
        have hw64 : IntKind.i64.wrap (1 + n5) = 1 + n5 := IntWalk.i64_in _ (by omega)
        have HN5 := Lib.hid hn5
        have HT := Lib.hid ht
        obtain ⟨X, hX⟩ : ∃ X, X = flatE ((es.take k).map (nearE true s')) := ⟨_, rfl⟩
        rw [← hX] at HO
        have HX := Lib.hid hX
        clear hn5 ht hX
        go_wp2_with fail
        have HMA := Lib.hid (show Mm w _ [(wr.heap.size, #[.int .i64 ek, .int .i64 et]), (w.heap.size, #[.int .i64 p', .int .i64 s', .int .i64 v', .bool d])] from HM.out.push wr.heap.size _ 32 rfl)
        have HOA := Lib.hid (HO.out.alloc (.cells #[.int .i64 ek, .int .i64 et] 32))
        have HG := Lib.hid (show ∀ g, mv.ownBlock = some g → g ≠ wr.heap.size from fun g hg => by have := (HO.out.lt g hg).2; omega)
        generalize wr.alloc (.cells #[.int .i64 ek, .int .i64 et] 32) = WA at *
        refine wp_region_grow_tail (Both (fun w' => Mm w w' [(wr.heap.size, #[.int .i64 ek, .int .i64 et]), (w.heap.size, #[.int .i64 p', .int .i64 s', .int .i64 v', .bool d])]) (fun w' => w'.ownsRow (w.heap.size + 1) 32 2 mv k X)) 10 (by kernel_rfl) (by kernel_rfl) ⟨HMA.out.drew, HOA.out.drew⟩ ?_
        simp only [List.take_succ_cons, List.take_zero, List.drop_succ_cons, List.drop_zero]
        (repeat first
                  | (apply gRow_plain
                     · exact rfl
                     · intro wg hg
                       ((have hgm : Mm w wg _ := hg.1; (obtain ⟨x00, x01, -⟩ := hgm.lay2 0 rfl; obtain ⟨x10, x11, x12, x13, -⟩ := hgm.lay4 1 rfl)))
                       go_simp
                       first
                         | exact rfl
                         | exact hg
                         | exact ⟨hg, rfl⟩
                         | ((first | ((with_reducible refine (within_any ek 5 _ (by decide) (by decide) HB64.out.1.1 HB64.out.1.2).mono ?_); rintro e w1 ⟨rfl, rfl⟩; exact ⟨by rw [← HN5.out], hg⟩) | ((with_reducible refine (within_any et s' _ hS1 (by omega) HB64.out.2.1 HB64.out.2.2).mono ?_); rintro e w1 ⟨rfl, rfl⟩; exact ⟨by rw [← HT.out], hg⟩)))
                     intro K hK
                     go_simp
                     refine hK _ ?_
                     clear hK K)
                  | (apply gRow_step
                     · go_simp; done
                     · intro wg hg
                       ((have hgm : Mm w wg _ := hg.1; (obtain ⟨x00, x01, -⟩ := hgm.lay2 0 rfl; obtain ⟨x10, x11, x12, x13, -⟩ := hgm.lay4 1 rfl)))
                       go_simp
                       first
                         | exact rfl
                         | exact hg
                         | exact ⟨hg, rfl⟩
                         | ((first | ((with_reducible refine (within_any ek 5 _ (by decide) (by decide) HB64.out.1.1 HB64.out.1.2).mono ?_); rintro e w1 ⟨rfl, rfl⟩; exact ⟨by rw [← HN5.out], hg⟩) | ((with_reducible refine (within_any et s' _ hS1 (by omega) HB64.out.2.1 HB64.out.2.2).mono ?_); rintro e w1 ⟨rfl, rfl⟩; exact ⟨by rw [← HT.out], hg⟩)))
                     intro K hK
                     go_simp
                     refine hK _ ?_
                     clear hK K)
                  | (apply gRow_not
                     · go_simp; done
                     intro K hK
                     go_simp
                     refine hK _ ?_
                     clear hK K))
        refine gRow_nil ?_
        rintro w4 ⟨hM4, hO4⟩
        have HM4 := Lib.hid hM4
        have HO4 := Lib.hid (owns_set (owns_set hO4 HG.out 0 (.int .i64 (1 + n5))) HG.out 1 (.int .i64 t))
        have HM5 := Lib.hid (show Mm w _ [(wr.heap.size, #[.int .i64 (1 + n5), .int .i64 t]), (w.heap.size, #[.int .i64 p', .int .i64 s', .int .i64 v', .bool d])] from hM4.put2 0 rfl _ _)
        clear hM4 hO4
        (obtain ⟨m00, m01, m00f, m01f, m0l⟩ := (HM4).out.lay2 0 rfl; obtain ⟨m10, m11, m12, m13, m10f, m11f, m12f, m13f, m1l⟩ := (HM4).out.lay4 1 rfl)
        go_wp2_with (at_builtin; refine wpList_append_own _ rfl (.tmp 42) (.tmp 44) 40 rfl (w.heap.size + 1) 32 i0 (.agg #[.int .i64 0, .int .i64 0]) 2 16 Try.underlying40 hi0 hz0 hz1 hz2 rfl (by decide) mv k _ rfl (HO4.out.alloc _) ⟨w4.heap.size, 0, none⟩ 1 1 [.int .i64 (1 + n5), .int .i64 t] rfl rfl (hnewsA (by simp)) one2 (by unfold maxLen; omega) (by omega) (by simp; have := HM4.out.lt (k := 1) rfl; omega) ?_; intro v' w5 hown5 hgrow5 hnil5; have HM6 := Lib.hid ((HM5.out.drop.alloc _).grown hgrow5 (own_ge HO.out)); have HO5 := Lib.hid hown5; clear hown5 hgrow5 hnil5)
        go_roundw
        case rel => exact ⟨k + 1, v', by omega, by go_num, rfl, HM6.out, Lib.hid (by rw [HSN.out, flatE_snoc, ← HX.out]; simp only [nearE, if_true]; rw [← HN5.out, ← HT.out]; exact HO5.out)⟩
        case measure => simp [intOf]; omega)
     · have hk' : k = n := by omega
       have HKN := Lib.hid hk'
       have HEV := Lib.hid (show Evs wr mv (es.map (nearE true s')) by
         refine evs_of_owns (B := w.heap.size + 1) ?_
         have h1 := HO.out
         have h2 := HKN.out
         have h3 := HL.out
         rw [List.length_map, ← h3]
         rw [h2, List.take_of_length_le (by omega)] at h1
         exact h1)
       obtain ⟨⟨⟨q1, q2, q3, q4⟩, nq⟩, hY⟩ : ∃ y, playF (p', s', v', d) (es.map (nearE true s')) 0 = y := ⟨_, rfl⟩
       have HY := Lib.hid hY
       clear hY hk'
       (obtain ⟨m00, m01, m02, m03, m00f, m01f, m02f, m03f, m0l⟩ := (HM).out.lay4 0 rfl)
       go_wp2_with (first
         | (go_at_call 23; refine (play_as HY.out HEV.out HBV.out.1 HBV.out.2).mono ?_; rintro e w1 ⟨rfl, hb1⟩; have HM1 := Lib.hid (HM.out.call hb1); have HEV1 := Lib.hid (HEV.out.below hb1 (Nat.le_refl _)); clear m00 m01 m02 m03 m00f m01f m02f m03f m0l; (obtain ⟨m00, m01, m02, m03, m00f, m01f, m02f, m03f, m0l⟩ := (HM1).out.lay4 0 rfl); clear hb1)
         | (go_at_call 24; refine (refPlay_as HY.out (HEV1.out.below (below_of_allocs _) (Nat.le_refl _))).mono ?_; rintro e w2 ⟨rfl, hb1⟩; have HM3 := Lib.hid ((HM1.out.push w1.heap.size #[.int .i64 q1, .int .i64 q2, .int .i64 q3, .bool q4] 23 rfl).call hb1); clear m00 m01 m02 m03 m00f m01f m02f m03f m0l; (obtain ⟨m00, m01, m02, m03, m00f, m01f, m02f, m03f, m0l⟩ := (HM3).out.lay4 0 rfl; obtain ⟨m10, m11, m12, m13, m10f, m11f, m12f, m13f, m1l⟩ := (HM3).out.lay4 1 rfl); clear hb1)
         | (go_at_call 13; refine (awake_any _).mono ?_; rintro e w3 ⟨rfl, hb1⟩; have HM4 := Lib.hid ((HM3.out.push w2.heap.size #[.int .i64 q1, .int .i64 q2, .int .i64 q3, .bool q4] 23 rfl).call hb1); clear m00 m01 m02 m03 m00f m01f m02f m03f m0l m10 m11 m12 m13 m10f m11f m12f m13f m1l; (obtain ⟨m00, m01, m02, m03, m00f, m01f, m02f, m03f, m0l⟩ := (HM4).out.lay4 0 rfl; obtain ⟨m10, m11, m12, m13, m10f, m11f, m12f, m13f, m1l⟩ := (HM4).out.lay4 1 rfl; obtain ⟨m20, m21, m22, m23, m20f, m21f, m22f, m23f, m2l⟩ := (HM4).out.lay4 2 rfl); clear hb1))
       go_ret
       exact ⟨rfl, HM4.out.below⟩)

theorem plays_any (p s v : Int) (d : Bool) (vl : Value) (es : List Ev) (near : Bool) (w : World) (he : Evs w vl es) (hE : ∀ e ∈ es, In64 e.1 ∧ In64 e.2) (hp : In64 p) (hs : In64 s) (hv : In64 v) :
    Calls Try.prog 5 #[.agg #[.int .i64 p, .int .i64 s, .int .i64 v, .bool d], vl, .bool near] w (RetB true w) := by
  cases near
  · exact plays_far p s v d vl es w he hE hp hs hv
  · exact plays_near p s v d vl es w he hE hp hs hv
end Go.Proofs.Ytpkgcklnknbbcaa
