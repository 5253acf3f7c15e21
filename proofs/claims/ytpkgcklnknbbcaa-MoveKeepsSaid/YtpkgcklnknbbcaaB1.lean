/- The walk of MoveBegins. -/
import Derived.Test.YtpkgcklnknbbcaaA2
set_option linter.unusedVariables false
set_option linter.unusedSimpArgs false
set_option linter.unnecessarySimpa false
namespace Go.Proofs.Ytpkgcklnknbbcaa
open Go.RowKit

theorem wf_i64 {n : Int} (h : (Lit.int .i64 n).wf = true) : -9223372036854775808 ≤ n ∧ n ≤ 9223372036854775807 := by
  simp [Lit.wf, IntKind.min, IntKind.max, IntKind.signed, IntKind.bits] at h
  exact ⟨by omega, by omega⟩

theorem begin_as {s : Int} {d : Bool} {p' s' v' : Int} {d' : Bool} {n' : Int} (h : beginF s d = ((p', s', v', d'), n')) (w : World) :
    Calls Try.prog 10 #[.int .i64 s, .bool d] w fun e w' => e = .returned (.tuple #[.agg #[.int .i64 p', .int .i64 s', .int .i64 v', .bool d'], .int .i64 n']) ∧ Below w.heap.size w w' := by
  have := begin_any s d w
  rw [h] at this
  exact this
theorem refBegin_as {s : Int} {d : Bool} {p' s' v' : Int} {d' : Bool} {n' : Int} (h : beginF s d = ((p', s', v', d'), n')) (w : World) :
    Calls Try.prog 11 #[.int .i64 s, .bool d] w fun e w' => e = .returned (.tuple #[.agg #[.int .i64 p', .int .i64 s', .int .i64 v', .bool d'], .int .i64 n']) ∧ Below w.heap.size w w' := by
  have := refBegin_any s d w
  rw [h] at this
  exact this
theorem valid_true {p s v : Int} (h : validB p s v = true) (d : Bool) (w : World) (h1 : -9223372036854775808 ≤ v) (h2 : v ≤ 9223372036854775807) :
    Calls Try.prog 14 #[.agg #[.int .i64 p, .int .i64 s, .int .i64 v, .bool d]] w fun e w' => e = .returned (.bool true) ∧ Below w.heap.size w w' := by
  have := valid_any p s v d w h1 h2
  rw [h] at this
  exact this

theorem below_call {w w1 w2 : World} {o : Obj} (h : Below w.heap.size w w1) (hb : Below (w1.alloc o).heap.size (w1.alloc o) w2) : Below w.heap.size w w2 :=
  (h.alloc h.size o).trans (hb.mono (by simp; exact Nat.le_succ_of_le h.size))
theorem lt_call {w1 w2 : World} {o : Obj} (hb : Below (w1.alloc o).heap.size (w1.alloc o) w2) : w1.heap.size < w2.heap.size := by
  have := hb.size; simp at this; omega
theorem At4.call {w1 w2 : World} {o : Obj} {b : Nat} {p s v : Int} {d : Bool} (h : At4 w1 b p s v d) (hb : Below (w1.alloc o).heap.size (w1.alloc o) w2) (hl : b < w1.heap.size) : At4 w2 b p s v d :=
  (h.below (below_of_allocs o) hl).below hb (by simp; omega)

set_option maxHeartbeats 1000000 in
theorem begins_any (s : Int) (d : Bool) (w : World) (hs1 : -9223372036854775808 ≤ s) (hs2 : s ≤ 9223372036854775807) :
    Calls Try.prog 3 #[.int .i64 s, .bool d] w (RetB true w) := by
  obtain ⟨⟨⟨p', s', v', d'⟩, n'⟩, hx⟩ : ∃ y, beginF s d = y := ⟨_, rfl⟩
  have HX := Lib.hid hx
  obtain ⟨n, hn⟩ : ∃ n, n = s % 4 := ⟨_, rfl⟩
  have n1 : 0 ≤ n := by omega
  have n2 : n < 4 := by omega
  have HN := Lib.hid hn
  have HY := Lib.hid (show beginF (1 + n) d = ((1, 1 + n, 0, d), 0) by unfold beginF; rw [if_neg (by omega)])
  have HV := Lib.hid (show validB 1 (1 + n) 0 = true by
    have := allOf_ge (s := 1 + n) (by omega) (by omega)
    simp [validB]; omega)
  have HS := Lib.hid (And.intro hs1 hs2)
  clear hx hn hs1 hs2
  have tok1 : True := trivial
  go_enter Try.func3, Try.ntmps3
  go_wp2_with (first
    | (go_at_call 10; have _t := tok1; refine (begin_as HX.out _).mono ?_; rintro e w1 ⟨rfl, hb1⟩; have HB1 := Lib.hid hb1; clear hb1 tok1 _t)
    | (go_at_call 11; refine (refBegin_as HX.out _).mono ?_; rintro e w2 ⟨rfl, hb2⟩; have HA2 := Lib.hid ((at4_new w1 p' s' v' d').below hb2 (by simp)); have hz12 := lt_call hb2; have HB2 := Lib.hid (below_call HB1.out hb2); clear hb2)
    | (go_at_call 12; refine (within_any _ _ _ (by decide) (by decide) HS.out.1 HS.out.2).mono ?_; rintro e wx ⟨rfl, rfl⟩; rw [← HN.out])
    | (go_at_call 10; refine (begin_as HY.out _).mono ?_; rintro e w3 ⟨rfl, hb3⟩; have HA3 := Lib.hid (HA2.out.call hb3 hz12); have HC3 := Lib.hid ((at4_new w2 p' s' v' d').below hb3 (by simp)); have hz23 := lt_call hb3; have HB3 := Lib.hid (below_call HB2.out hb3); clear hb3 HA2)
    | (go_at_call 13; refine (awake_any _).mono ?_; rintro e w4 ⟨rfl, hb4⟩; obtain ⟨c0, c1, c2, c3⟩ := HA3.out.call hb4 (Nat.lt_trans hz12 hz23); obtain ⟨e0, e1, e2, e3⟩ := HC3.out.call hb4 hz23; obtain ⟨f0, f1, f2, f3⟩ := (at4_new w3 1 (1 + n) 0 d).below hb4 (by simp); have hz34 := lt_call hb4; have HF := Lib.hid (((at4_new w3 1 (1 + n) 0 d).below hb4 (by simp))); have HB4 := Lib.hid (below_call HB3.out hb4); clear hb4 HA3 HC3)
    | (go_at_call 14; refine (valid_true HV.out _ _ (by decide) (by decide)).mono ?_; rintro e w5 ⟨rfl, hb5⟩; obtain ⟨g0, g1, g2, g3⟩ := HF.out.below hb5 hz34; have HB5 := Lib.hid (HB4.out.trans (hb5.mono HB4.out.size)); clear hb5))
  go_ret
  exact ⟨rfl, HB5.out⟩
end Go.Proofs.Ytpkgcklnknbbcaa
