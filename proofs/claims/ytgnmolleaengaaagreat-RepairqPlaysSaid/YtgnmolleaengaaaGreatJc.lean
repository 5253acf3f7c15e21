/- The walks of Valid, key, Key, slices.Clone. -/
import Derived.Test.YtgnmolleaengaaaGreatJb
import Derived.Lib.SliceRun
set_option linter.unusedVariables false
set_option linter.unusedSimpArgs false
set_option linter.unnecessarySimpa false
namespace Go.Proofs.YtgnmolleaengaaaGreat
open Go Go.RowKit

set_option maxRecDepth 20000 in
set_option maxHeartbeats 4000000 in
theorem valid_as {w : World} {j : Jb} {an ad : Option Addr} {anc adc : Nat} (oj : OkJ j) (h1 : Rd eU w (.slice an (limb j.n).length anc) (limb j.n)) (h2 : Rd eU w (.slice ad (limb j.d).length adc) (limb j.d)) :
    Calls Tryz.prog 15 #[jv j (.slice an (limb j.n).length anc) (.slice ad (limb j.d).length adc)] w fun e w' => e = .returned (.bool true) ∧ Below w.heap.size w w' := by
  obtain ⟨v1, f1, c1, r1, n1, d1⟩ := oj
  have HL1 := Lib.hid (lims4 n1)
  have HL2 := Lib.hid (lims4 d1.2)
  have HL3 := Lib.hid (show Lims [] from fun x hx => by cases hx)
  have HL4 := Lib.hid (show Lims [1] from fun x hx => by rw [List.mem_singleton.1 hx]; omega)
  have HV1 := Lib.hid (validJ (n := j.n) d1.1)
  have HV2 := Lib.hid (show validQ [] [1] = true from validJ (n := 0) (d := 1) (by omega))
  have hM := (Mm.start (S := []) w (by simp)).push w.heap.size (jc j (.slice an (limb j.n).length anc) (.slice ad (limb j.d).length adc)) 29 rfl
  have HM := Lib.hid hM
  have hB0 := hM.only.below (B := w.heap.size) (by simp) (Nat.le_refl _)
  have HB0 := Lib.hid hB0
  have HN1 := Lib.hid (h1.below hB0 (Nat.le_refl _))
  have HD1 := Lib.hid (h2.below hB0 (Nat.le_refl _))
  obtain ⟨c, hc⟩ : ∃ c, ordQ false false (limb j.n) (limb j.d) [] [1] = c := ⟨_, rfl⟩
  have HC := Lib.hid hc
  have hc0 : 0 ≤ c := by
    have := ordQ_small (n1 := j.n) (d1 := j.d) (n2 := 0) (d2 := 1) n1 d1.2 (by omega) (by omega)
    rw [show limb 0 = [] from rfl, show limb 1 = [1] from rfl, hc] at this
    rw [this]
    split
    · omega
    · split <;> omega
  have hcc : decide (0 ≤ c) = true := by simpa using hc0
  obtain ⟨a1, a2, a3, a4, a5, a6⟩ := j
  simp only at v1 f1 c1 r1
  clear h1 h2 hM hB0 hc n1 d1
  go_enter Tryz.func15, Tryz.ntmps15
  go_wp2_with (first
    | (go_at_call 31; (with_reducible refine (fmake_zero _).mono ?_); rintro e w1 ⟨p1, q1, p2, q2, rfl, k1, k2, hb⟩; have HM1 := Lib.hid ((HM.out.call hb).push w1.heap.size #[.bool false, .slice p1 0 q1, .slice p2 1 q2] 27 rfl); have HB1 := Lib.hid ((HB0.out.trans (hb.mono HB0.out.size)).alloc ((HB0.out.trans (hb.mono HB0.out.size)).size) (.cells #[.bool false, .slice p1 0 q1, .slice p2 1 q2] 27)); have HZ1 := Lib.hid ((k1.keep (below_alloc _ (.cells #[.bool false, .slice p1 0 q1, .slice p2 1 q2] 27))).rd); have HZ2 := Lib.hid ((k2.keep (below_alloc _ (.cells #[.bool false, .slice p1 0 q1, .slice p2 1 q2] 27))).rd); have HN2 := Lib.hid ((HN1.out.keep hb).keep (below_alloc _ (.cells #[.bool false, .slice p1 0 q1, .slice p2 1 q2] 27))); have HD2 := Lib.hid ((HD1.out.keep hb).keep (below_alloc _ (.cells #[.bool false, .slice p1 0 q1, .slice p2 1 q2] 27))); obtain ⟨t0, t1, t2, -⟩ := HM1.out.lay3 0 rfl; obtain ⟨s0, s1, s2, s3, s4, s5, s6, -⟩ := HM1.out.lay7 1 rfl; clear k1 k2 hb)
    | (go_at_call 32; (with_reducible refine (fcmp_as HN2.out HD2.out HZ1.out HZ2.out HL1.out HL2.out HL3.out HL4.out HV1.out HV2.out HC.out).mono ?_); rintro e w2 ⟨rfl, hb⟩; have HB2 := Lib.hid (HB1.out.trans (hb.mono HB1.out.size)); clear hb))
  go_ret
  exact ⟨rfl, HB2.out⟩

abbrev kc (j : Jb) : Value := .agg #[.int .i64 j.vol, .int .i64 j.frag]
theorem key_as (j : Jb) (an ad : Option Addr) (n1 c1 n2 c2 : Nat) (w : World) :
    Calls Tryz.prog 34 #[jv j (.slice an n1 c1) (.slice ad n2 c2)] w fun e w' => e = .returned (kc j) ∧ Below w.heap.size w w' := by
  have HM := Lib.hid (((Mm.start (S := []) w (by simp)).push w.heap.size (jc j (.slice an n1 c1) (.slice ad n2 c2)) 29 rfl).push (w.heap.size + 1) #[.int .i64 j.vol, .int .i64 j.frag] 33 (by simp))
  obtain ⟨a1, a2, a3, a4, a5, a6⟩ := j
  go_enter Tryz.func34, Tryz.ntmps34
  go_wp2_with fail
  refine bodyPost_ret (v := .agg #[.int .i64 a1, .int .i64 a2]) ?_ rfl ⟨rfl, HM.out.only.below (by simp) (Nat.le_refl _)⟩
  obtain ⟨d0, d1, -⟩ := HM.out.lay2 0 rfl
  simp [results, Tryz.results34, go_sem]
theorem rkey_as (j : Jb) (an ad : Option Addr) (n1 c1 n2 c2 : Nat) (w : World) :
    Calls Tryz.prog 10 #[jv j (.slice an n1 c1) (.slice ad n2 c2)] w fun e w' => e = .returned (kc j) ∧ Below w.heap.size w w' := by
  have HM := Lib.hid (((Mm.start (S := []) w (by simp)).push w.heap.size (jc j (.slice an n1 c1) (.slice ad n2 c2)) 29 rfl).push (w.heap.size + 1) #[.int .i64 j.vol, .int .i64 j.frag] 33 (by simp))
  obtain ⟨a1, a2, a3, a4, a5, a6⟩ := j
  go_enter Tryz.func10, Tryz.ntmps10
  go_wp2_with fail
  refine bodyPost_ret (v := .agg #[.int .i64 a1, .int .i64 a2]) ?_ rfl ⟨rfl, HM.out.only.below (by simp) (Nat.le_refl _)⟩
  obtain ⟨d0, d1, -⟩ := HM.out.lay2 0 rfl
  simp [results, Tryz.results10, go_sem]

/-- slices.Clone of limbs -/
theorem ow_empty (w : World) : Ow eU 94 w (w.alloc (.cells #[] 94)) (.slice (some ⟨w.heap.size, 0, none⟩) 0 0) [] :=
  ⟨below_alloc _ _, ⟨rfl, .inr ⟨w.heap.size, 0, #[], rfl, Nat.le_refl _, by show (w.heap.push _)[w.heap.size]? = _; simp, Nat.le_refl _, by unfold maxLen; omega, rfl, rfl⟩⟩, fun t ht => by cases ht⟩
set_option maxRecDepth 20000 in
theorem sclone_as {w : World} {a : Option Addr} {n c : Nat} {l : List Nat} (h : Rd eU w (.slice a n c) l) (hl : l.length ≤ 1000) : Calls Tryz.prog 60 #[.slice a n c] w (SlPost w l) := by
  have hn := h.caps.2.2
  have q29 : ∀ (w : World) (a : Option Addr) (n c n' c' : Nat), (binOp .eql 25 (.slice a n c) (.slice none n' c')).run Tryz.prog w = .ok (.bool a.isNone) w := fun w a n c n' c' => Lib.run_eql_slice_nil w _ _ a n c n' c' elt29.und
  cases a with
  | none =>
    obtain ⟨rfl, rfl⟩ := h.bare
    clear hn
    go_enter Tryz.func60, Tryz.ntmps60
    go_wp2_with fail
    go_ret
    exact ⟨none, 0, rfl, ru_nil _, Below.refl _ _⟩
  | some p =>
    have HR := Lib.hid (h.keep (below_alloc w (.cells #[] 94)))
    have HO0 := Lib.hid (ow_empty w)
    have HZ := Lib.hid (show ([] : List Nat).length + l.length ≤ 10000 by simp; omega)
    have HLL := Lib.hid hl
    have HB0 := Lib.hid (below_alloc w (.cells #[] 94))
    have HNN := Lib.hid hn
    clear h hl hn
    go_enter Tryz.func60, Tryz.ntmps60
    go_wp2_with (at_builtin; refine wpList_more elt29 _ _ rfl rfl rfl rfl HO0.out HR.out HZ.out ?_; intro pp cp w2 HO HG)
    go_ret
    have hO := HO.out
    simp only [List.nil_append, List.length_nil, Nat.zero_add] at hO
    exact ⟨_, _, by simp only [List.length_nil, Nat.zero_add]; rfl, Ru.of_ow hO (by have := HLL.out; omega), hO.below⟩
end Go.Proofs.YtgnmolleaengaaaGreat
