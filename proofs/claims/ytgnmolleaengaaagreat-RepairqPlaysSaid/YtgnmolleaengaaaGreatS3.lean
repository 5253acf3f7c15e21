/- The walks of the reference's fractions: Valid, Order, Cmp. -/
import Derived.Test.YtgnmolleaengaaaGreatS2
set_option linter.unusedVariables false
set_option linter.unusedSimpArgs false
set_option linter.unnecessarySimpa false
namespace Go.Proofs.YtgnmolleaengaaaGreat
open Go Go.RowKit


set_option maxHeartbeats 2000000 in
theorem rfvalid_any {w : World} {neg : Bool} {a a2 : Option Addr} {n n2 c c2 : Nat} {N D : List Nat} (h : Rd eU w (.slice a n c) N) (h2 : Rd eU w (.slice a2 n2 c2) D) (hn : clen N ≤ 5000) (hd : clen D ≤ 5000) {r : Bool} (hr : validQ N D = r) :
    Calls Tryz.prog 30 #[fv neg (.slice a n c) (.slice a2 n2 c2)] w fun e w' => e = .returned (.bool r) ∧ Below w.heap.size w w' := by
  have hba := below_alloc w (.cells #[.bool neg, .slice a n c, .slice a2 n2 c2] 27)
  have HBA := Lib.hid hba
  have HX := Lib.hid (Holds.new w #[.bool neg, .slice a n c, .slice a2 n2 c2] 27)
  have HN0 := Lib.hid (h.keep hba)
  have HD0 := Lib.hid (h2.keep hba)
  have HKN := Lib.hid hn
  have HKD := Lib.hid hd
  obtain ⟨x, hx⟩ : ∃ x, (trim N).length = x := ⟨_, rfl⟩
  obtain ⟨y, hy⟩ : ∃ x, (trim D).length = x := ⟨_, rfl⟩
  have HNN := Lib.hid hx
  have HDD := Lib.hid hy
  have HRR := Lib.hid (show (decide (0 < y) && decide (y ≤ 128) && decide (x ≤ 128)) = r by rw [← hr, ← hx, ← hy, trim_len, trim_len]; rfl)
  have TOK := Lib.hid True.intro
  clear h h2 hba hn hd hx hy hr
  obtain ⟨s0, s1, s2, -⟩ := HX.out.lay3
  by_cases h1 : 0 < y
  · have q1 : decide (0 < y) = true := by simp; omega
    have q1' : decide ((0 : Int) < (y : Int)) = true := by simp; omega
    by_cases h2 : y ≤ 128
    · have q2 : decide ((y : Int) ≤ 128) = true := by simp; omega
      by_cases h3 : x ≤ 128
      · have q3 : decide ((x : Int) ≤ 128) = true := by simp; omega
        (
          go_enter Tryz.func30, Tryz.ntmps30
          go_wp2_with (first
            | (go_at_call 51; have _t := TOK; (with_reducible refine (rtrim_any HD0.out HKD.out).mono ?_); rintro e w1 ⟨p1, c1, rfl, r1, hb⟩; rw [HDD.out]; have HB1 := Lib.hid (HBA.out.trans (hb.mono HBA.out.size)); have HX1 := Lib.hid (HX.out.keep hb); have HD1 := Lib.hid (HD0.out.keep hb); have HN1 := Lib.hid (HN0.out.keep hb); have TOK2 := Lib.hid True.intro; clear hb r1 TOK _t s0 s1 s2; obtain ⟨s0, s1, s2, -⟩ := HX1.out.lay3)
            | (go_at_call 51; have _t := TOK2; (with_reducible refine (rtrim_any HD1.out HKD.out).mono ?_); rintro e w2 ⟨p2, c2, rfl, r1, hb⟩; rw [HDD.out]; have HB2 := Lib.hid (HB1.out.trans (hb.mono HB1.out.size)); have HX2 := Lib.hid (HX1.out.keep hb); have HN2 := Lib.hid (HN1.out.keep hb); have TOK3 := Lib.hid True.intro; clear hb r1 TOK2 _t s0 s1 s2; obtain ⟨s0, s1, s2, -⟩ := HX2.out.lay3)
            | (go_at_call 51; have _t := TOK3; (with_reducible refine (rtrim_any HN2.out HKN.out).mono ?_); rintro e w3 ⟨p3, c3, rfl, r1, hb⟩; rw [HNN.out]; have HB3 := Lib.hid (HB2.out.trans (hb.mono HB2.out.size)); clear hb r1 TOK3 _t)))
        go_ret
        exact ⟨by rw [← HRR.out]; simp [h1, h2, h3], HB3.out⟩
      · have q3 : decide ((x : Int) ≤ 128) = false := by simp; omega
        (
          go_enter Tryz.func30, Tryz.ntmps30
          go_wp2_with (first
            | (go_at_call 51; have _t := TOK; (with_reducible refine (rtrim_any HD0.out HKD.out).mono ?_); rintro e w1 ⟨p1, c1, rfl, r1, hb⟩; rw [HDD.out]; have HB1 := Lib.hid (HBA.out.trans (hb.mono HBA.out.size)); have HX1 := Lib.hid (HX.out.keep hb); have HD1 := Lib.hid (HD0.out.keep hb); have HN1 := Lib.hid (HN0.out.keep hb); have TOK2 := Lib.hid True.intro; clear hb r1 TOK _t s0 s1 s2; obtain ⟨s0, s1, s2, -⟩ := HX1.out.lay3)
            | (go_at_call 51; have _t := TOK2; (with_reducible refine (rtrim_any HD1.out HKD.out).mono ?_); rintro e w2 ⟨p2, c2, rfl, r1, hb⟩; rw [HDD.out]; have HB2 := Lib.hid (HB1.out.trans (hb.mono HB1.out.size)); have HX2 := Lib.hid (HX1.out.keep hb); have HN2 := Lib.hid (HN1.out.keep hb); have TOK3 := Lib.hid True.intro; clear hb r1 TOK2 _t s0 s1 s2; obtain ⟨s0, s1, s2, -⟩ := HX2.out.lay3)
            | (go_at_call 51; have _t := TOK3; (with_reducible refine (rtrim_any HN2.out HKN.out).mono ?_); rintro e w3 ⟨p3, c3, rfl, r1, hb⟩; rw [HNN.out]; have HB3 := Lib.hid (HB2.out.trans (hb.mono HB2.out.size)); clear hb r1 TOK3 _t)))
        go_ret
        exact ⟨by rw [← HRR.out]; simp [h3], HB3.out⟩
    · have q2 : decide ((y : Int) ≤ 128) = false := by simp; omega
      (
        go_enter Tryz.func30, Tryz.ntmps30
        go_wp2_with (first
          | (go_at_call 51; have _t := TOK; (with_reducible refine (rtrim_any HD0.out HKD.out).mono ?_); rintro e w1 ⟨p1, c1, rfl, r1, hb⟩; rw [HDD.out]; have HB1 := Lib.hid (HBA.out.trans (hb.mono HBA.out.size)); have HX1 := Lib.hid (HX.out.keep hb); have HD1 := Lib.hid (HD0.out.keep hb); have HN1 := Lib.hid (HN0.out.keep hb); have TOK2 := Lib.hid True.intro; clear hb r1 TOK _t s0 s1 s2; obtain ⟨s0, s1, s2, -⟩ := HX1.out.lay3)
          | (go_at_call 51; have _t := TOK2; (with_reducible refine (rtrim_any HD1.out HKD.out).mono ?_); rintro e w2 ⟨p2, c2, rfl, r1, hb⟩; rw [HDD.out]; have HB2 := Lib.hid (HB1.out.trans (hb.mono HB1.out.size)); have HX2 := Lib.hid (HX1.out.keep hb); have HN2 := Lib.hid (HN1.out.keep hb); have TOK3 := Lib.hid True.intro; clear hb r1 TOK2 _t s0 s1 s2; obtain ⟨s0, s1, s2, -⟩ := HX2.out.lay3)
          | (go_at_call 51; have _t := TOK3; (with_reducible refine (rtrim_any HN2.out HKN.out).mono ?_); rintro e w3 ⟨p3, c3, rfl, r1, hb⟩; rw [HNN.out]; have HB3 := Lib.hid (HB2.out.trans (hb.mono HB2.out.size)); clear hb r1 TOK3 _t)))
      go_ret
      exact ⟨by rw [← HRR.out]; simp [h2], HB2.out⟩
  · have q1 : decide ((0 : Int) < (y : Int)) = false := by simp; omega
    have q1' : decide (0 < y) = false := by simp; omega
    (
      go_enter Tryz.func30, Tryz.ntmps30
      go_wp2_with (first
        | (go_at_call 51; have _t := TOK; (with_reducible refine (rtrim_any HD0.out HKD.out).mono ?_); rintro e w1 ⟨p1, c1, rfl, r1, hb⟩; rw [HDD.out]; have HB1 := Lib.hid (HBA.out.trans (hb.mono HBA.out.size)); have HX1 := Lib.hid (HX.out.keep hb); have HD1 := Lib.hid (HD0.out.keep hb); have HN1 := Lib.hid (HN0.out.keep hb); have TOK2 := Lib.hid True.intro; clear hb r1 TOK _t s0 s1 s2; obtain ⟨s0, s1, s2, -⟩ := HX1.out.lay3)
        | (go_at_call 51; have _t := TOK2; (with_reducible refine (rtrim_any HD1.out HKD.out).mono ?_); rintro e w2 ⟨p2, c2, rfl, r1, hb⟩; rw [HDD.out]; have HB2 := Lib.hid (HB1.out.trans (hb.mono HB1.out.size)); have HX2 := Lib.hid (HX1.out.keep hb); have HN2 := Lib.hid (HN1.out.keep hb); have TOK3 := Lib.hid True.intro; clear hb r1 TOK2 _t s0 s1 s2; obtain ⟨s0, s1, s2, -⟩ := HX2.out.lay3)
        | (go_at_call 51; have _t := TOK3; (with_reducible refine (rtrim_any HN2.out HKN.out).mono ?_); rintro e w3 ⟨p3, c3, rfl, r1, hb⟩; rw [HNN.out]; have HB3 := Lib.hid (HB2.out.trans (hb.mono HB2.out.size)); clear hb r1 TOK3 _t)))
    go_ret
    exact ⟨by rw [← HRR.out]; simp [q1'], HB1.out⟩
end Go.Proofs.YtgnmolleaengaaaGreat
