/- The walk of RepairqValid. -/
import Derived.Test.YtgnmolleaengaaaGreatVc
import Derived.Test.YtgnmolleaengaaaGreatVd
import Derived.Test.YtgnmolleaengaaaGreatVj
import Derived.Test.YtgnmolleaengaaaGreatRp
set_option linter.unusedVariables false
set_option linter.unusedSimpArgs false
set_option linter.unnecessarySimpa false
namespace Go.Proofs.YtgnmolleaengaaaGreat
namespace V
open Go Go.RowKit

theorem new_bad {s : Int} (h : s < 1 ∨ 48 < s) (w : World) : Calls Tryz.prog 12 #[.int .i64 s] w fun e w' => e = .returned (.tuple #[.pointer none, .int .i64 5]) ∧ Below w.heap.size w w' := by
  by_cases h1 : s < 1
  · have q1 : decide (s < 1) = true := by simpa using h1
    clear h h1
    go_enter Tryz.func12, Tryz.ntmps12
    go_wp2_with fail
    go_ret2
    exact ⟨rfl, Below.refl _ _⟩
  · have q1 : decide (s < 1) = false := by simpa using h1
    have q2 : decide (48 < s) = true := by simp; omega
    clear h h1
    go_enter Tryz.func12, Tryz.ntmps12
    go_wp2_with fail
    go_ret2
    exact ⟨rfl, Below.refl _ _⟩
theorem rnew_bad {s : Int} (h : s < 1 ∨ 48 < s) (w : World) : Calls Tryz.prog 13 #[.int .i64 s] w fun e w' => e = .returned (.tuple #[.pointer none, .int .i64 5]) ∧ Below w.heap.size w w' := by
  by_cases h1 : s < 1
  · have q1 : decide (s < 1) = true := by simpa using h1
    clear h h1
    go_enter Tryz.func13, Tryz.ntmps13
    go_wp2_with fail
    go_ret2
    exact ⟨rfl, Below.refl _ _⟩
  · have q1 : decide (s < 1) = false := by simpa using h1
    have q2 : decide (48 < s) = true := by simp; omega
    clear h h1
    go_enter Tryz.func13, Tryz.ntmps13
    go_wp2_with fail
    go_ret2
    exact ⟨rfl, Below.refl _ _⟩
theorem rnew_ok {s : Int} (h1 : 1 ≤ s) (h2 : s ≤ 48) (w : World) : Calls Tryz.prog 13 #[.int .i64 s] w fun e w' => (∃ a, e = .returned (.tuple #[.pointer (some a), .int .i64 0])) ∧ Below w.heap.size w w' := by
  have q1 : decide (s < 1) = false := by simp; omega
  have q2 : decide (48 < s) = false := by simp; omega
  clear h1 h2
  go_enter Tryz.func13, Tryz.ntmps13
  go_wp2_with fail
  go_ret2
  exact ⟨⟨_, rfl⟩, below_alloc _ _⟩

theorem put_bad {qb : Nat} {j : Jb} {an ad : Option Addr} {anc adc : Nat} {w : World} (hval : Calls Tryz.prog 15 #[jv j (.slice an j.n.length anc) (.slice ad j.d.length adc)] (w.alloc (.cells (jc j (.slice an j.n.length anc) (.slice ad j.d.length adc)) 29)) fun e w' => e = .returned (.bool false) ∧ Below (w.alloc (.cells (jc j (.slice an j.n.length anc) (.slice ad j.d.length adc)) 29)).heap.size (w.alloc (.cells (jc j (.slice an j.n.length anc) (.slice ad j.d.length adc)) 29)) w') :
    Calls Tryz.prog 16 #[.pointer (some ⟨qb, 0, none⟩), jv j (.slice an j.n.length anc) (.slice ad j.d.length adc)] w fun e w' => e = .returned (.int .i64 114) ∧ Below w.heap.size w w' := by
  have HB0 := Lib.hid (below_alloc w (.cells (jc j (.slice an j.n.length anc) (.slice ad j.d.length adc)) 29))
  have KV := Lib.hid hval
  obtain ⟨a1, a2, a3, a4, ng, n1, d1⟩ := j
  clear hval
  go_enter Tryz.func16, Tryz.ntmps16
  go_wp2_with (go_at_call 15; (with_reducible refine KV.out.mono ?_); rintro e w1 ⟨rfl, hb⟩; have HB1 := Lib.hid (HB0.out.trans (hb.mono HB0.out.size)); clear hb)
  go_ret
  exact ⟨rfl, HB1.out⟩

/-- the box of the argument -/
structure Bx (w wx : World) (b : Nat) (j : Jb) (an : Option Addr) (anc : Nat) (ad : Option Addr) (adc : Nat) : Prop where
  below : Below w.heap.size w wx
  box : Holds wx b (jc j (.slice an j.n.length anc) (.slice ad j.d.length adc))
  num : Rd eU wx (.slice an j.n.length anc) j.n
  den : Rd eU wx (.slice ad j.d.length adc) j.d
theorem Bx.keep {w wx wy : World} {b : Nat} {j : Jb} {an ad : Option Addr} {anc adc : Nat} (h : Bx w wx b j an anc ad adc) (hb : Below wx.heap.size wx wy) : Bx w wy b j an anc ad adc :=
  ⟨h.below.trans (hb.mono h.below.size), h.box.keep hb, h.num.keep hb, h.den.keep hb⟩



set_option maxRecDepth 20000 in
set_option maxHeartbeats 8000000 in
theorem valid_law (j : Jb) (an : Option Addr) (anc : Nat) (ad : Option Addr) (adc : Nat) (s : Int) (w : World) (hg : Good w j an anc ad adc) :
    Calls Tryz.prog 4 #[jv j (.slice an j.n.length anc) (.slice ad j.d.length adc), .int .i64 s] w fun e w' => e = .returned (.bool true) ∧ Below w.heap.size w w' := by
  have hba := below_alloc w (.cells (jc j (.slice an j.n.length anc) (.slice ad j.d.length adc)) 29)
  have HX := Lib.hid (show Bx w (w.alloc (.cells (jc j (.slice an j.n.length anc) (.slice ad j.d.length adc)) 29)) w.heap.size j an anc ad adc from ⟨hba, Holds.new w _ 29, hg.num.keep hba, hg.den.keep hba⟩)
  have HG := Lib.hid hg
  have hc1 := hg.num.caps
  have hc2 := hg.den.caps
  have q8 := hc1.1
  have q9 := hc1.2.1
  have p8 := hc2.1
  have p9 := hc2.2.1
  clear hba hg hc1 hc2
  obtain ⟨a1, a2, a3, a4, ng, n1, d1⟩ := j
  simp only at q8 q9 p8 p9
  by_cases h1 : 200 < n1.length
  · have q1 : decide (200 < n1.length) = true := by simpa using h1
    have q2 : decide ((200 : Int) < (n1.length : Int)) = true := by simp; omega
    clear h1
    (
      obtain ⟨s0, s1, s2, s3, s4, s5, s6, -⟩ := HX.out.box.lay7)
    go_enter Tryz.func4, Tryz.ntmps4
    go_wp2_with (go_at_call 11; (with_reducible refine (awake_any _).mono ?_); rintro e w1 ⟨rfl, hb⟩; have HB1 := Lib.hid (HX.out.keep hb); clear hb)
    go_ret
    exact ⟨rfl, HB1.out.below⟩
  have q1 : decide (200 < n1.length) = false := by simpa using h1
  have q2 : decide ((200 : Int) < (n1.length : Int)) = false := by simp; omega
  by_cases h2 : 200 < d1.length
  · have q3 : decide (200 < d1.length) = true := by simpa using h2
    have q4 : decide ((200 : Int) < (d1.length : Int)) = true := by simp; omega
    clear h1 h2
    (
      obtain ⟨s0, s1, s2, s3, s4, s5, s6, -⟩ := HX.out.box.lay7)
    go_enter Tryz.func4, Tryz.ntmps4
    go_wp2_with (go_at_call 11; (with_reducible refine (awake_any _).mono ?_); rintro e w1 ⟨rfl, hb⟩; have HB1 := Lib.hid (HX.out.keep hb); clear hb)
    go_ret
    exact ⟨rfl, HB1.out.below⟩
  have q3 : decide (200 < d1.length) = false := by simpa using h2
  have q4 : decide ((200 : Int) < (d1.length : Int)) = false := by simp; omega
  have oj : OkJ ⟨a1, a2, a3, a4, ng, n1, d1⟩ := ⟨by simp only; omega, by simp only; omega⟩
  obtain ⟨r, hr⟩ : ∃ r, (decide (okI ⟨a1, a2, a3, a4, ng, n1, d1⟩) && okR ⟨a1, a2, a3, a4, ng, n1, d1⟩) = r := ⟨_, rfl⟩
  have HOJ := Lib.hid oj
  have KRV : ∀ wz, Hid (Rd eU wz (.slice an n1.length anc) n1 → Rd eU wz (.slice ad d1.length adc) d1 → Calls Tryz.prog 14 #[jv ⟨a1, a2, a3, a4, ng, n1, d1⟩ (.slice an n1.length anc) (.slice ad d1.length adc)] wz fun e w' => e = .returned (.bool r) ∧ Below wz.heap.size wz w') := fun wz => Lib.hid fun p q => rvalid_gen oj HG.out.ln HG.out.ld p q hr
  have KV : ∀ wz, Hid (Rd eU wz (.slice an n1.length anc) n1 → Rd eU wz (.slice ad d1.length adc) d1 → Calls Tryz.prog 15 #[jv ⟨a1, a2, a3, a4, ng, n1, d1⟩ (.slice an n1.length anc) (.slice ad d1.length adc)] wz fun e w' => e = .returned (.bool r) ∧ Below wz.heap.size wz w') := fun wz => Lib.hid fun p q => valid_gen oj HG.out.ln HG.out.ld p q hr
  have KB : ∀ wz, Hid (Rd eU wz (.slice an n1.length anc) n1 → Rd eU wz (.slice ad d1.length adc) d1 → Calls Tryz.prog 8 #[jv ⟨a1, a2, a3, a4, ng, n1, d1⟩ (.slice an n1.length anc) (.slice ad d1.length adc), jv ⟨a1, a2, a3, a4, ng, n1, d1⟩ (.slice an n1.length anc) (.slice ad d1.length adc)] wz fun e w' => e = .returned (.bool false) ∧ Below wz.heap.size wz w') := fun wz => Lib.hid fun p q => before_self oj HG.out.ln HG.out.ld p q
  clear h1 h2 oj hr
  have KN2 : ∀ w : World, Hid (Calls Tryz.prog 12 #[.int .i64 2] w fun e w' => ∃ qb, e = .returned (.tuple #[.pointer (some ⟨qb, 0, none⟩), .int .i64 0]) ∧ Go.Proofs.YtgnmolleaengaaaGreat.Qp w.heap.size qb ((2 : Nat) : Int) [] w' ∧ Below w.heap.size w w') := fun w => Lib.hid (new_as (n := 2) (by omega) (by omega) w)
  have TOK := Lib.hid True.intro
  have KPT : Hid (r = true → ∀ (B qb : Nat) (wz : World), Go.Proofs.YtgnmolleaengaaaGreat.Qp B qb ((2 : Nat) : Int) [] wz → B ≤ wz.heap.size → Rd eU wz (.slice an n1.length anc) n1 → Rd eU wz (.slice ad d1.length adc) d1 → Calls Tryz.prog 16 #[.pointer (some ⟨qb, 0, none⟩), jv ⟨a1, a2, a3, a4, ng, n1, d1⟩ (.slice an n1.length anc) (.slice ad d1.length adc)] wz (PutPost B qb ((2 : Nat) : Int) ⟨a1, a2, a3, a4, ng, n1, d1⟩ false false (fun y => [] ++ [y]) wz)) :=
    Lib.hid fun hr B qb wz hq hB p q => put_new (Qp.of hq) hB HOJ.out (fun w0 p q => hr ▸ (KV _).out p q) p q
  have KPF : Hid (r = false → ∀ (qb : Nat) (wz : World), Rd eU wz (.slice an n1.length anc) n1 → Rd eU wz (.slice ad d1.length adc) d1 → Calls Tryz.prog 16 #[.pointer (some ⟨qb, 0, none⟩), jv ⟨a1, a2, a3, a4, ng, n1, d1⟩ (.slice an n1.length anc) (.slice ad d1.length adc)] wz fun e w' => e = .returned (.int .i64 114) ∧ Below wz.heap.size wz w') :=
    Lib.hid fun hr qb wz p q => put_bad (hr ▸ (KV _).out (p.keep (below_alloc _ _)) (q.keep (below_alloc _ _)))
  by_cases hs : s < 1 ∨ 48 < s
  · have KN := fun w => Lib.hid (new_bad hs w)
    have KR := fun w => Lib.hid (rnew_bad hs w)
    clear hs
    cases r with
    | false =>
      have KP := KPF.out rfl
      (
        obtain ⟨s0, s1, s2, s3, s4, s5, s6, -⟩ := HX.out.box.lay7)
      go_enter Tryz.func4, Tryz.ntmps4
      go_wp2_with (first
        | (go_at_call 12; have _t := TOK; (with_reducible refine (KN _).out.mono ?_); rintro e w1 ⟨rfl, hb⟩; have HX1 := Lib.hid (HX.out.keep hb); clear hb TOK _t)
        | (go_at_call 13; (with_reducible refine (KR _).out.mono ?_); rintro e w2 ⟨rfl, hb⟩; have HX2 := Lib.hid (HX1.out.keep hb); clear s0 s1 s2 s3 s4 s5 s6; obtain ⟨s0, s1, s2, s3, s4, s5, s6, -⟩ := HX2.out.box.lay7; clear hb)
        | (go_at_call 14; (with_reducible refine ((KRV _).out HX2.out.num HX2.out.den).mono ?_); rintro e w3 ⟨rfl, hb⟩; have HX3 := Lib.hid (HX2.out.keep hb); clear s0 s1 s2 s3 s4 s5 s6; obtain ⟨s0, s1, s2, s3, s4, s5, s6, -⟩ := HX3.out.box.lay7; clear hb)
        | (go_at_call 15; (with_reducible refine ((KV _).out HX3.out.num HX3.out.den).mono ?_); rintro e w4 ⟨rfl, hb⟩; have HX4 := Lib.hid (HX3.out.keep hb); clear s0 s1 s2 s3 s4 s5 s6; obtain ⟨s0, s1, s2, s3, s4, s5, s6, -⟩ := HX4.out.box.lay7; clear hb)
        | (go_at_call 8; (with_reducible refine ((KB _).out HX4.out.num HX4.out.den).mono ?_); rintro e w5 ⟨rfl, hb⟩; have HX5 := Lib.hid (HX4.out.keep hb); have TOK2 := Lib.hid True.intro; clear hb)
        | (go_at_call 12; have _t := TOK2; (with_reducible refine (KN2 _).out.mono ?_); rintro e w6 ⟨qb, rfl, hq, hb⟩; have HX6 := Lib.hid (HX5.out.keep hb); have HQ6 := Lib.hid hq; have HZ6 := Lib.hid hb.size; clear s0 s1 s2 s3 s4 s5 s6; obtain ⟨s0, s1, s2, s3, s4, s5, s6, -⟩ := HX6.out.box.lay7; clear hb hq TOK2 _t)
        | (go_at_call 16; (with_reducible refine (KP _ _ HX6.out.num HX6.out.den).mono ?_); rintro e w7 ⟨rfl, hb⟩; have HQ7 := Lib.hid (HQ6.out.keep hb); have HB7 := Lib.hid (HX6.out.below.trans (hb.mono HX6.out.below.size)); clear hb)
        | (go_at_call 11; (with_reducible refine (awake_any _).mono ?_); rintro e w8 ⟨rfl, hb⟩; have HB8 := Lib.hid (HB7.out.trans (hb.mono HB7.out.size)); have HQ8 := Lib.hid (HQ7.out.keep hb); clear hb)
        | (go_at_call 17; (with_reducible refine (Go.Proofs.YtgnmolleaengaaaGreat.jobs_as HQ8.out (by simp)).mono ?_); rintro e w9 ⟨pj, cj, M, rfl, -, -, hb⟩; have HB9 := Lib.hid (HB8.out.trans (hb.mono HB8.out.size)); have HQ9 := Lib.hid (HQ8.out.keep hb); simp only [List.length_nil]; clear hb)
        | (go_at_call 18; (with_reducible refine (Go.Proofs.YtgnmolleaengaaaGreat.running_as HQ9.out (by simp)).mono ?_); rintro e w10 ⟨pr, cr, K, rfl, hp, -, -, hb⟩; have HB10 := Lib.hid (HB9.out.trans (hb.mono HB9.out.size)); have hk0 : K.length = 0 := (by rw [hp.length_eq]; rfl); rw [hk0]; clear hb hp hk0))
      go_ret
      exact ⟨rfl, HB10.out⟩
    | true =>
      have KP := KPT.out rfl
      (
        obtain ⟨s0, s1, s2, s3, s4, s5, s6, -⟩ := HX.out.box.lay7)
      go_enter Tryz.func4, Tryz.ntmps4
      go_wp2_with (first
        | (go_at_call 12; have _t := TOK; (with_reducible refine (KN _).out.mono ?_); rintro e w1 ⟨rfl, hb⟩; have HX1 := Lib.hid (HX.out.keep hb); clear hb TOK _t)
        | (go_at_call 13; (with_reducible refine (KR _).out.mono ?_); rintro e w2 ⟨rfl, hb⟩; have HX2 := Lib.hid (HX1.out.keep hb); clear s0 s1 s2 s3 s4 s5 s6; obtain ⟨s0, s1, s2, s3, s4, s5, s6, -⟩ := HX2.out.box.lay7; clear hb)
        | (go_at_call 14; (with_reducible refine ((KRV _).out HX2.out.num HX2.out.den).mono ?_); rintro e w3 ⟨rfl, hb⟩; have HX3 := Lib.hid (HX2.out.keep hb); clear s0 s1 s2 s3 s4 s5 s6; obtain ⟨s0, s1, s2, s3, s4, s5, s6, -⟩ := HX3.out.box.lay7; clear hb)
        | (go_at_call 15; (with_reducible refine ((KV _).out HX3.out.num HX3.out.den).mono ?_); rintro e w4 ⟨rfl, hb⟩; have HX4 := Lib.hid (HX3.out.keep hb); clear s0 s1 s2 s3 s4 s5 s6; obtain ⟨s0, s1, s2, s3, s4, s5, s6, -⟩ := HX4.out.box.lay7; clear hb)
        | (go_at_call 8; (with_reducible refine ((KB _).out HX4.out.num HX4.out.den).mono ?_); rintro e w5 ⟨rfl, hb⟩; have HX5 := Lib.hid (HX4.out.keep hb); have TOK2 := Lib.hid True.intro; clear hb)
        | (go_at_call 12; have _t := TOK2; (with_reducible refine (KN2 _).out.mono ?_); rintro e w6 ⟨qb, rfl, hq, hb⟩; have HX6 := Lib.hid (HX5.out.keep hb); have HQ6 := Lib.hid hq; have HZ6 := Lib.hid hb.size; clear s0 s1 s2 s3 s4 s5 s6; obtain ⟨s0, s1, s2, s3, s4, s5, s6, -⟩ := HX6.out.box.lay7; clear hb hq TOK2 _t)
        | (go_at_call 16; (with_reducible refine (KP _ _ _ HQ6.out HZ6.out HX6.out.num HX6.out.den).mono ?_); rintro e w7 ⟨rfl, y, y1, y2, y3, hq, ht⟩; have HQ7 := Lib.hid hq; have HB7 := Lib.hid (HX6.out.below.trans ((ht.below HZ6.out).mono HX5.out.below.size)); have Y2 := Lib.hid y2; clear hq ht y1 y3 y2)
        | (go_at_call 11; (with_reducible refine (awake_any _).mono ?_); rintro e w8 ⟨rfl, hb⟩; have HB8 := Lib.hid (HB7.out.trans (hb.mono HB7.out.size)); have HQ8 := Lib.hid (HQ7.out.keep hb); clear hb)
        | (go_at_call 17; (with_reducible refine (jobs_as HQ8.out (by simp)).mono ?_); rintro e w9 ⟨pj, cj, M, rfl, -, -, hb⟩; have HB9 := Lib.hid (HB8.out.trans (hb.mono HB8.out.size)); have HQ9 := Lib.hid (HQ8.out.keep hb); simp only [List.nil_append, List.length_singleton]; clear hb)
        | (go_at_call 18; (with_reducible refine (running_as HQ9.out (by simp)).mono ?_); rintro e w10 ⟨pr, cr, K, rfl, hp, -, -, hb⟩; have HB10 := Lib.hid (HB9.out.trans (hb.mono HB9.out.size)); have hk0 : K.length = 0 := (by rw [hp.length_eq]; unfold keysP; simp [Y2.out]); rw [hk0]; clear hb hp hk0))
      go_ret
      exact ⟨rfl, HB10.out⟩
  · obtain ⟨n, hn⟩ : ∃ n : Nat, s = (n : Int) := ⟨s.toNat, by omega⟩
    subst hn
    have KN := fun w => Lib.hid (new_as (n := n) (by omega) (by omega) w)
    have KR := fun w => Lib.hid (rnew_ok (s := (n : Int)) (by omega) (by omega) w)
    clear hs
    cases r with
    | false =>
      have KP := KPF.out rfl
      (
        obtain ⟨s0, s1, s2, s3, s4, s5, s6, -⟩ := HX.out.box.lay7)
      go_enter Tryz.func4, Tryz.ntmps4
      go_wp2_with (first
        | (go_at_call 12; have _t := TOK; (with_reducible refine (KN _).out.mono ?_); rintro e w1 ⟨qb1, rfl, -, hb⟩; have HX1 := Lib.hid (HX.out.keep hb); clear hb TOK _t)
        | (go_at_call 13; (with_reducible refine (KR _).out.mono ?_); rintro e w2 ⟨⟨ra, rfl⟩, hb⟩; have HX2 := Lib.hid (HX1.out.keep hb); clear s0 s1 s2 s3 s4 s5 s6; obtain ⟨s0, s1, s2, s3, s4, s5, s6, -⟩ := HX2.out.box.lay7; clear hb)
        | (go_at_call 14; (with_reducible refine ((KRV _).out HX2.out.num HX2.out.den).mono ?_); rintro e w3 ⟨rfl, hb⟩; have HX3 := Lib.hid (HX2.out.keep hb); clear s0 s1 s2 s3 s4 s5 s6; obtain ⟨s0, s1, s2, s3, s4, s5, s6, -⟩ := HX3.out.box.lay7; clear hb)
        | (go_at_call 15; (with_reducible refine ((KV _).out HX3.out.num HX3.out.den).mono ?_); rintro e w4 ⟨rfl, hb⟩; have HX4 := Lib.hid (HX3.out.keep hb); clear s0 s1 s2 s3 s4 s5 s6; obtain ⟨s0, s1, s2, s3, s4, s5, s6, -⟩ := HX4.out.box.lay7; clear hb)
        | (go_at_call 8; (with_reducible refine ((KB _).out HX4.out.num HX4.out.den).mono ?_); rintro e w5 ⟨rfl, hb⟩; have HX5 := Lib.hid (HX4.out.keep hb); have TOK2 := Lib.hid True.intro; clear hb)
        | (go_at_call 12; have _t := TOK2; (with_reducible refine (KN2 _).out.mono ?_); rintro e w6 ⟨qb, rfl, hq, hb⟩; have HX6 := Lib.hid (HX5.out.keep hb); have HQ6 := Lib.hid hq; have HZ6 := Lib.hid hb.size; clear s0 s1 s2 s3 s4 s5 s6; obtain ⟨s0, s1, s2, s3, s4, s5, s6, -⟩ := HX6.out.box.lay7; clear hb hq TOK2 _t)
        | (go_at_call 16; (with_reducible refine (KP _ _ HX6.out.num HX6.out.den).mono ?_); rintro e w7 ⟨rfl, hb⟩; have HQ7 := Lib.hid (HQ6.out.keep hb); have HB7 := Lib.hid (HX6.out.below.trans (hb.mono HX6.out.below.size)); clear hb)
        | (go_at_call 11; (with_reducible refine (awake_any _).mono ?_); rintro e w8 ⟨rfl, hb⟩; have HB8 := Lib.hid (HB7.out.trans (hb.mono HB7.out.size)); have HQ8 := Lib.hid (HQ7.out.keep hb); clear hb)
        | (go_at_call 17; (with_reducible refine (Go.Proofs.YtgnmolleaengaaaGreat.jobs_as HQ8.out (by simp)).mono ?_); rintro e w9 ⟨pj, cj, M, rfl, -, -, hb⟩; have HB9 := Lib.hid (HB8.out.trans (hb.mono HB8.out.size)); have HQ9 := Lib.hid (HQ8.out.keep hb); simp only [List.length_nil]; clear hb)
        | (go_at_call 18; (with_reducible refine (Go.Proofs.YtgnmolleaengaaaGreat.running_as HQ9.out (by simp)).mono ?_); rintro e w10 ⟨pr, cr, K, rfl, hp, -, -, hb⟩; have HB10 := Lib.hid (HB9.out.trans (hb.mono HB9.out.size)); have hk0 : K.length = 0 := (by rw [hp.length_eq]; rfl); rw [hk0]; clear hb hp hk0))
      go_ret
      exact ⟨rfl, HB10.out⟩
    | true =>
      have KP := KPT.out rfl
      (
        obtain ⟨s0, s1, s2, s3, s4, s5, s6, -⟩ := HX.out.box.lay7)
      go_enter Tryz.func4, Tryz.ntmps4
      go_wp2_with (first
        | (go_at_call 12; have _t := TOK; (with_reducible refine (KN _).out.mono ?_); rintro e w1 ⟨qb1, rfl, -, hb⟩; have HX1 := Lib.hid (HX.out.keep hb); clear hb TOK _t)
        | (go_at_call 13; (with_reducible refine (KR _).out.mono ?_); rintro e w2 ⟨⟨ra, rfl⟩, hb⟩; have HX2 := Lib.hid (HX1.out.keep hb); clear s0 s1 s2 s3 s4 s5 s6; obtain ⟨s0, s1, s2, s3, s4, s5, s6, -⟩ := HX2.out.box.lay7; clear hb)
        | (go_at_call 14; (with_reducible refine ((KRV _).out HX2.out.num HX2.out.den).mono ?_); rintro e w3 ⟨rfl, hb⟩; have HX3 := Lib.hid (HX2.out.keep hb); clear s0 s1 s2 s3 s4 s5 s6; obtain ⟨s0, s1, s2, s3, s4, s5, s6, -⟩ := HX3.out.box.lay7; clear hb)
        | (go_at_call 15; (with_reducible refine ((KV _).out HX3.out.num HX3.out.den).mono ?_); rintro e w4 ⟨rfl, hb⟩; have HX4 := Lib.hid (HX3.out.keep hb); clear s0 s1 s2 s3 s4 s5 s6; obtain ⟨s0, s1, s2, s3, s4, s5, s6, -⟩ := HX4.out.box.lay7; clear hb)
        | (go_at_call 8; (with_reducible refine ((KB _).out HX4.out.num HX4.out.den).mono ?_); rintro e w5 ⟨rfl, hb⟩; have HX5 := Lib.hid (HX4.out.keep hb); have TOK2 := Lib.hid True.intro; clear hb)
        | (go_at_call 12; have _t := TOK2; (with_reducible refine (KN2 _).out.mono ?_); rintro e w6 ⟨qb, rfl, hq, hb⟩; have HX6 := Lib.hid (HX5.out.keep hb); have HQ6 := Lib.hid hq; have HZ6 := Lib.hid hb.size; clear s0 s1 s2 s3 s4 s5 s6; obtain ⟨s0, s1, s2, s3, s4, s5, s6, -⟩ := HX6.out.box.lay7; clear hb hq TOK2 _t)
        | (go_at_call 16; (with_reducible refine (KP _ _ _ HQ6.out HZ6.out HX6.out.num HX6.out.den).mono ?_); rintro e w7 ⟨rfl, y, y1, y2, y3, hq, ht⟩; have HQ7 := Lib.hid hq; have HB7 := Lib.hid (HX6.out.below.trans ((ht.below HZ6.out).mono HX5.out.below.size)); have Y2 := Lib.hid y2; clear hq ht y1 y3 y2)
        | (go_at_call 11; (with_reducible refine (awake_any _).mono ?_); rintro e w8 ⟨rfl, hb⟩; have HB8 := Lib.hid (HB7.out.trans (hb.mono HB7.out.size)); have HQ8 := Lib.hid (HQ7.out.keep hb); clear hb)
        | (go_at_call 17; (with_reducible refine (jobs_as HQ8.out (by simp)).mono ?_); rintro e w9 ⟨pj, cj, M, rfl, -, -, hb⟩; have HB9 := Lib.hid (HB8.out.trans (hb.mono HB8.out.size)); have HQ9 := Lib.hid (HQ8.out.keep hb); simp only [List.nil_append, List.length_singleton]; clear hb)
        | (go_at_call 18; (with_reducible refine (running_as HQ9.out (by simp)).mono ?_); rintro e w10 ⟨pr, cr, K, rfl, hp, -, -, hb⟩; have HB10 := Lib.hid (HB9.out.trans (hb.mono HB9.out.size)); have hk0 : K.length = 0 := (by rw [hp.length_eq]; unfold keysP; simp [Y2.out]); rw [hk0]; clear hb hp hk0))
      go_ret
      exact ⟨rfl, HB10.out⟩
end V
end Go.Proofs.YtgnmolleaengaaaGreat
