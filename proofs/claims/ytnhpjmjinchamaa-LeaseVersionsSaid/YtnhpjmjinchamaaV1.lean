/- The walk of LeaseVersions. -/
import Derived.Test.YtnhpjmjinchamaaTj
import Derived.Test.YtnhpjmjinchamaaSq
set_option linter.unusedVariables false
set_option linter.unusedSimpArgs false
set_option linter.unnecessarySimpa false
namespace Go.Proofs.Ytnhpjmjinchamaa
open Go Go.RowKit Go.MapKept Go.ChangeMaps

theorem and7 (x : Int) : 0 ≤ bits .and .i64 x 7 ∧ bits .and .i64 x 7 ≤ 7 := by
  have h1 : (BitVec.ofInt 64 (7 : Int)).toNat = 7 := by decide
  have e : bits .and .i64 x 7 = IntKind.i64.wrap ((((BitVec.ofInt 64 x).toNat &&& 7 : Nat)) : Int) := by
    show IntKind.i64.wrap (((BitVec.ofInt 64 x &&& BitVec.ofInt 64 7).toNat : Nat) : Int) = _
    rw [BitVec.toNat_and, h1]
  have h2 : (BitVec.ofInt 64 x).toNat &&& 7 ≤ 7 := Nat.and_le_right
  rw [e, IntWalk.i64_in _ (by omega)]
  omega

def verT (t c : Int) : Tb := { noT with term := t, count := c }
theorem verT_no : verT 0 0 = noT := rfl

structure VerI (w wr : World) (i : Ids) (k : Nat) (last term c : Int) : Prop where
  tb : TbAt wr i (verT term c)
  below : Below w.heap.size w wr
  own : ∀ s ∈ i.all, w.heap.size ≤ s
  t0 : 0 ≤ term
  t1 : term ≤ 9 * k
  c0 : 0 ≤ c
  c1 : c ≤ k
  l0 : 0 ≤ last
  l1 : last ≤ term * 1048576 + c
  z : term = 0 → last = 0

theorem VerI.out {w wr w' : World} {i : Ids} {k : Nat} {last term c t' c' : Int} {v : Value} {e : Ending} (h : VerI w wr i k last term c) (ho : Out wr i (verT t' c') v e w') : e = .returned v ∧ TbAt w' i (verT t' c') ∧ Below w.heap.size w w' :=
  ⟨ho.1, ho.2.1, h.below.trans (ho.2.2.below h.own h.below.size)⟩

theorem adv_up {t c u : Int} (h1 : 0 ≤ u) (h2 : u ≤ 1048575) (h : t < u) : advF (verT t c) u = (0, verT u 0) := by
  unfold advF
  rw [if_neg (by omega), if_neg (by show ¬ u ≤ t; omega)]
  rfl
theorem adv_old {t c u : Int} (h1 : 0 ≤ u) (h2 : u ≤ 1048575) (h : u ≤ t) : advF (verT t c) u = (109, verT t c) := by
  unfold advF
  rw [if_neg (by omega), if_pos (by show u ≤ t; omega)]
theorem ver_zero {c : Int} : verF (verT 0 c) = ((0, 109), verT 0 c) := by unfold verF; rw [if_pos (show (verT 0 c).term = 0 from rfl)]
theorem ver_some {t c : Int} (h1 : t ≠ 0) (h2 : c ≠ 1048575) : verF (verT t c) = ((t * 1048576 + (c + 1), 0), verT t (c + 1)) := by
  unfold verF; rw [if_neg (show ¬ (verT t c).term = 0 from h1), if_neg (show ¬ (verT t c).count = 1048575 from h2)]; rfl

theorem ver_as' {w : World} {i : Ids} {T' : Tb} {t c a b : Int} (h : TbAt w i (verT t c)) (h1 : 0 ≤ t) (h2 : t ≤ 1048575) (h3 : 0 ≤ c) (h4 : c ≤ 1048575) (he : verF (verT t c) = ((a, b), T')) : Calls Try.prog 13 #[i.ptr] w (Out w i T' (.tuple #[.int .i64 a, .int .i64 b])) := ver_as h h1 h2 h3 h4 he

set_option maxRecDepth 20000 in
set_option maxHeartbeats 4000000 in
theorem versions_any (a : Option Addr) (n cap : Nat) (f : Nat → Int) (w : World) (hl : Seq w (.slice a n cap) 1 n (fun i => [.int .i64 (f i)])) : Calls Try.prog 3 #[.slice a n cap] w fun e w' => e = .returned (.bool true) ∧ Below w.heap.size w w' := by
  obtain ⟨a', cap', hv, hcap, hn63, hcell⟩ := hl
  cases hv
  have HC := Lib.hid hcell
  clear hcell hcap
  by_cases h100 : 100 < n
  · go_enter Try.func3, Try.ntmps3
    go_wp2_with (first
      | (go_at_call 10; (with_reducible refine (awake_any _).mono ?_); rintro e w1 ⟨rfl, hb⟩; have HB := Lib.hid hb; clear hb))
    go_ret
    exact ⟨rfl, HB.out⟩
  · go_enter Try.func3, Try.ntmps3
    go_wp2_with (first
      | (go_at_call 11; (with_reducible refine (new_any _).mono ?_); rintro e w1 ⟨i, rfl, hs, ht, hb⟩; have HI := Lib.hid (VerI.mk (k := 0) (last := 0) (term := 0) (c := 0) ht hb hs (by omega) (by omega) (by omega) (by omega) (by omega) (by omega) (fun _ => rfl)); clear hs ht hb))
    go_loopw [4, 5, 6] (fun last term k wr => ∃ (kk : Nat) (l t c : Int), last = .int .i64 l ∧ term = .int .i64 t ∧ k = .int .i64 kk ∧ kk ≤ n ∧ Hid (VerI w wr i kk l t c)) (fun _ _ k _ => n - (intOf k).toNat)
    case atStart => exact ⟨0, 0, 0, 0, rfl, rfl, rfl, by omega, HI⟩
    case round =>
      rename World => wr
      obtain ⟨k, l, t, c, rfl, rfl, rfl, hk, HV⟩ := hrel
      have t0 := HV.out.t0
      have t1 := HV.out.t1
      have c0 := HV.out.c0
      have c1 := HV.out.c1
      have t2 : t ≤ 1048575 := by omega
      have c2 : c ≤ 1048575 := by omega
      have l0 := HV.out.l0
      have l1 := HV.out.l1
      by_cases hkn : k < n
      · obtain ⟨b, off, rfl, hb, hcc⟩ := HC.out k hkn
        have hcell : wr.cell? ⟨b, off + k, none⟩ = some (.int .i64 (f k)) := by
          have := hcc 0 _ rfl
          simp at this
          exact (HV.out.below.cell (p := ⟨b, off + k, none⟩) hb).trans this
        clear hcc
        cases hx : (bits .and .i64 (f k) 3 == 0) with
        | true =>
          obtain ⟨y0, y7⟩ := and7 (f k / 4)
          have HA1 := Lib.hid (adv_up (t := t) (c := c) (u := t + 1 + bits .and .i64 (f k / 4) 7) (by omega) (by omega) (by omega))
          have HA2 := Lib.hid (adv_old (t := t + 1 + bits .and .i64 (f k / 4) 7) (c := 0) (u := t + 1 + bits .and .i64 (f k / 4) 7) (by omega) (by omega) (by omega))
          have HA3 := Lib.hid (adv_old (t := t + 1 + bits .and .i64 (f k / 4) 7) (c := 0) (u := t) (by omega) (by omega) (by omega))
          go_wp2_with (first
            | (go_at_call 12; (with_reducible refine (adv_as HV.out.tb HA1.out).mono ?_); intro e w1 ho; have H1 := Lib.hid (HV.out.out ho); obtain ⟨rfl, -⟩ := H1.out; clear ho)
            | (go_at_call 12; (with_reducible refine (adv_as H1.out.2.1 HA2.out).mono ?_); intro e w2 ho; have H2 := Lib.hid (show TbAt w2 i _ ∧ Below w.heap.size w w2 from ⟨ho.2.1, H1.out.2.2.trans (ho.2.2.below HV.out.own H1.out.2.2.size)⟩); obtain ⟨rfl, -⟩ := ho)
            | (go_at_call 12; (with_reducible refine (adv_as H2.out.1 HA3.out).mono ?_); intro e w3 ho; have H3 := Lib.hid (show TbAt w3 i _ ∧ Below w.heap.size w w3 from ⟨ho.2.1, H2.out.2.trans (ho.2.2.below HV.out.own H2.out.2.size)⟩); obtain ⟨rfl, -⟩ := ho))
          go_roundw
          case rel => exact ⟨k + 1, l, _, 0, rfl, rfl, by go_num, by omega, ⟨H3.out.1, H3.out.2, HV.out.own, by omega, by omega, by omega, by omega, by omega, by omega, fun h => by omega⟩⟩
          case measure => simp [intOf]; omega
        | false =>
          by_cases ht : t = 0
          · subst ht
            have HA1 := Lib.hid (ver_zero (c := c))
            have hl0 := HV.out.z rfl
            subst hl0
            go_wp2_with (first
              | (go_at_call 13; (with_reducible refine (ver_as' HV.out.tb t0 t2 c0 c2 HA1.out).mono ?_); intro e w1 ho; have H1 := Lib.hid (HV.out.out ho); obtain ⟨rfl, -⟩ := H1.out; clear ho))
            go_roundw
            case rel => exact ⟨k + 1, 0, 0, c, rfl, rfl, by go_num, by omega, ⟨H1.out.2.1, H1.out.2.2, HV.out.own, by omega, by omega, by omega, by omega, by omega, by omega, fun _ => rfl⟩⟩
            case measure => simp [intOf]; omega
          · have ht' : (t == 0) = false := by simpa using ht
            have HA1 := Lib.hid (ver_some (t := t) (c := c) ht (by omega))
            obtain ⟨v, hv⟩ : ∃ v, t * 1048576 + (c + 1) = v := ⟨_, rfl⟩
            have q1 : v / 1048576 = t := by omega
            have q2 : (v / 1048576 != t) = false := by rw [q1]; simp
            have q3 : l < v := by omega
            have q4 : v ≤ 1099511627775 := by omega
            have q5 : 0 ≤ v := by omega
            have HV2 := Lib.hid hv
            rw [hv] at HA1
            clear hv q1
            have hgt : decide (v ≤ l) = false := by simpa using q3
            have hgt2 : decide (1099511627775 < v) = false := by simp; omega
            go_wp2_with (first
              | (go_at_call 13; (with_reducible refine (ver_as' HV.out.tb t0 t2 c0 c2 HA1.out).mono ?_); intro e w1 ho; have H1 := Lib.hid (HV.out.out ho); obtain ⟨rfl, -⟩ := H1.out; clear ho))
            go_roundw
            case rel =>
              have := HV2.out
              exact ⟨k + 1, v, t, c + 1, rfl, rfl, by go_num, by omega, ⟨H1.out.2.1, H1.out.2.2, HV.out.own, by omega, by omega, by omega, by omega, by omega, by omega, fun h => absurd h ht⟩⟩
            case measure => simp [intOf]; omega
      · go_wp2_with (first
          | (go_at_call 10; (with_reducible refine (awake_any _).mono ?_); rintro e w1 ⟨rfl, hb⟩; have HB := Lib.hid hb; clear hb)
          | (go_at_call 14; (with_reducible refine (term_as (HV.out.tb.below HB.out) (t := t) rfl).mono ?_); rintro e w2 ⟨rfl, rfl⟩))
        go_ret
        exact ⟨rfl, HV.out.below.trans (HB.out.mono HV.out.below.size)⟩
end Go.Proofs.Ytnhpjmjinchamaa
