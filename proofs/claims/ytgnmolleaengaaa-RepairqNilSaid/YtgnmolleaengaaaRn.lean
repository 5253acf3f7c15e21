/- The walk of Put. -/
import Derived.Test.YtgnmolleaengaaaRm
set_option linter.unusedVariables false
set_option linter.unusedSimpArgs false
set_option linter.unnecessarySimpa false
namespace Go.Proofs.Ytgnmolleaengaaa
open Go Go.RowKit

/-- an entry y with the job j and the marks of m, put into the row by f -/
def PutPost (B qb : Nat) (slots : Int) (j : Jb) (run held : Bool) (f : En → List En) (w : World) (e : Ending) (w' : World) : Prop :=
  e = .returned (.int .i64 0) ∧ ∃ y L', y.j = j ∧ y.run = run ∧ y.held = held ∧ L'.Perm (f y) ∧ L'.Pairwise (fun x y => ltE y x = false) ∧ Qp B qb slots L' w' ∧ Qt B w w'


set_option maxRecDepth 20000 in
set_option maxHeartbeats 4000000 in
theorem put_old {B qb : Nat} {slots : Int} {L : List En} {w : World} (h : Qp B qb slots L w) (hB : B ≤ w.heap.size) (hl : L.length ≤ 19) {j : Jb} {an ad : Option Addr} {anc adc : Nat} (oj : OkJ j) (h1 : Ru w (.slice an (limb j.n).length anc) (limb j.n)) (h2 : Ru w (.slice ad (limb j.d).length adc) (limb j.d))
    {i : Nat} {x : En} (hi : idxF (j.vol, j.frag) L = (i : Int)) (hx : L[i]? = some x) :
    Calls Try.prog 10 #[.pointer (some ⟨qb, 0, none⟩), jv j (.slice an (limb j.n).length anc) (.slice ad (limb j.d).length adc)] w (PutPost B qb slots j x.run x.held (fun y => L.set i y) w) := by
  have HX := Lib.hid hx
  have hil : i < L.length := (List.getElem?_eq_some_iff.1 hx).1
  clear hx
  (
    have HBX := Lib.hid (Holds.new w (jc j (.slice an (limb j.n).length anc) (.slice ad (limb j.d).length adc)) 33)
    have HTY := Lib.hid (TyB.new w (jc j (.slice an (limb j.n).length anc) (.slice ad (limb j.d).length adc)) 33)
    have hba := below_alloc w (.cells (jc j (.slice an (limb j.n).length anc) (.slice ad (limb j.d).length adc)) 33)
    have HBA := Lib.hid hba
    have HR1 := Lib.hid (h1.keep hba)
    have HR2 := Lib.hid (h2.keep hba)
    have HQ0 := Lib.hid (h.keep hba)
    have KV := Lib.hid (valid_as oj HR1.out.rd HR2.out.rd)
    have HOJ := Lib.hid oj
    have HL := Lib.hid hl
    have HI := Lib.hid hi
    have HBB := Lib.hid hB
    clear h h1 h2 hba oj hi hB
    obtain ⟨a1, a2, a3, a4, n1, d1⟩ := j
    unfold PutPost
    go_enter Try.func10, Try.ntmps10
    obtain ⟨s0, s1, s2, s3, s4, s5, s6, -⟩ := HBX.out.lay7
    go_wp2_with (first
      | (go_at_call 20; (with_reducible refine KV.out.mono ?_); rintro e w1 ⟨rfl, hb⟩; have HB1 := Lib.hid (HBA.out.trans (hb.mono HBA.out.size)); have HX1 := Lib.hid (HBX.out.keep hb); have HT1 := Lib.hid (HTY.out.keep hb); have HQ1 := Lib.hid (HQ0.out.keep hb); have HU1 := Lib.hid (HR1.out.keep hb); have HV1 := Lib.hid (HR2.out.keep hb); clear s0 s1 s2 s3 s4 s5 s6; obtain ⟨s0, s1, s2, s3, s4, s5, s6, -⟩ := HX1.out.lay7; clear hb)
      | (go_at_call 21; (with_reducible refine (key_as ⟨a1, a2, a3, a4, n1, d1⟩ _ _ _ _ _ _ _).mono ?_); rintro e w2 ⟨rfl, hb⟩; have HB2 := Lib.hid (HB1.out.trans (hb.mono HB1.out.size)); have HX2 := Lib.hid (HX1.out.keep hb); have HT2 := Lib.hid (HT1.out.keep hb); have HQ2 := Lib.hid (HQ1.out.keep hb); have HU2 := Lib.hid (HU1.out.keep hb); have HV2 := Lib.hid (HV1.out.keep hb); have KF := Lib.hid (find_as HQ2.out (by have := HL.out; omega) (a1, a2) HI.out); clear s0 s1 s2 s3 s4 s5 s6; clear hb)
      | (go_at_call 18; (with_reducible refine KF.out.mono ?_); rintro e w3 ⟨rfl, hb⟩; have HB3 := Lib.hid (HB2.out.trans (hb.mono HB2.out.size)); have HX3 := Lib.hid (HX2.out.keep hb); have HT3 := Lib.hid (HT2.out.keep hb); have HQ3 := Lib.hid (HQ2.out.keep hb); have HU3 := Lib.hid (HU2.out.keep hb); have HV3 := Lib.hid (HV2.out.keep hb); clear hb)))
  obtain ⟨n, hn⟩ : ∃ n, L.length = n := ⟨_, rfl⟩
  have HN := Lib.hid hn
  obtain ⟨g, cap, hqa⟩ := HQ3.out.at hn (by omega)
  have HPU := Lib.hid (show Pv B qb w.heap.size slots L (.slice (some ⟨g, 0, none⟩) n cap) (jc ⟨a1, a2, a3, a4, n1, d1⟩ (.slice an (limb n1).length anc) (.slice ad (limb d1).length adc)) w ⟨⟨a1, a2, a3, a4, n1, d1⟩, an, anc, ad, adc, x.run, x.held⟩ w3 from ⟨⟨HQ3.out, ⟨hqa.c1, HX3.out⟩, HT3.out, Qt.of_below HB3.out B⟩, HU3.out, HV3.out⟩)
  have hc := hqa.caps
  have hc1 := hc.1
  have hc2 := hc.2
  rw [hn] at hl hil
  clear hn hqa hc
  refine wp_region_pick_tail (Pb qb w.heap.size (.slice (some ⟨g, 0, none⟩) n cap) (jc ⟨a1, a2, a3, a4, n1, d1⟩ (.slice an (limb n1).length anc) (.slice ad (limb d1).length adc))) (Pv B qb w.heap.size slots L (.slice (some ⟨g, 0, none⟩) n cap) (jc ⟨a1, a2, a3, a4, n1, d1⟩ (.slice an (limb n1).length anc) (.slice ad (limb d1).length adc)) w ⟨⟨a1, a2, a3, a4, n1, d1⟩, an, anc, ad, adc, x.run, x.held⟩) [0, 1, 2, 3, 4, 5] 1 7 (by kernel_rfl) ?_ (fun _ _ h hb => h.keep hb) (fun _ h => h.pu.see) HPU.out ?_
  · kernel_rfl
  repeat (apply pRow_plain
          · exact rfl
          · exact rfl
          · intro wg hg
            ((obtain ⟨s0, s1, s2, s3, s4, s5, s6, -⟩ := hg.box.lay7; have dd1 := hg.c1))
            go_simp
            first
              | exact rfl
              | exact Below.refl _ _
              | exact ⟨Below.refl _ _, rfl⟩
              | ((fail))
          intro K hK
          go_simp
          refine hK _ ?_
          clear hK K)
  refine pRow_nil ?_
  refine lAnyL_step [6] ?_ (by simp) (by decide) ?_
  · kernel_rfl
  intro k hk
  obtain rfl : k = 6 := by simpa using hk
  refine lOp_ex (ι := Option Addr × Nat × Option Addr × Nat) (fun p => jv ⟨a1, a2, a3, a4, n1, d1⟩ (.slice p.1 (limb n1).length p.2.1) (.slice p.2.2.1 (limb d1).length p.2.2.2)) (fun p => Pv B qb w.heap.size slots L (.slice (some ⟨g, 0, none⟩) n cap) (jc ⟨a1, a2, a3, a4, n1, d1⟩ (.slice an (limb n1).length anc) (.slice ad (limb d1).length adc)) w ⟨⟨a1, a2, a3, a4, n1, d1⟩, p.1, p.2.1, p.2.2.1, p.2.2.2, x.run, x.held⟩) ?_ rfl rfl (fun _ _ _ h hb => h.keep hb) (fun _ _ h => h.pu.see) ?_ ?_
  · rintro ⟨p1, p2, p3, p4⟩ ⟨q1, q2, q3, q4⟩ he
    cases he
    rfl
  · intro wg hg
    go_simp
    with_reducible refine (clone_as (j := ⟨a1, a2, a3, a4, n1, d1⟩) hg.num.rd hg.den.rd).mono ?_
    rintro e w' ⟨pa, pc, qa, qc, rfl, r1, r2, hb⟩
    exact ⟨_, rfl, pa, pc, qa, qc, rfl, hg.pu.keep hb, r1, r2⟩
  rintro ⟨pa, pc, qa, qc⟩
  go_simp
  refine ⟨?_, ?_⟩
  · kernel_rfl
  intro wg hg
  have hqa : QAt B qb g cap slots L n wg := ⟨hg.pu.q, HN.out, hg.pu.see.c1⟩
  have HQA := Lib.hid hqa
  have HG := Lib.hid hg
  have HJOB := Lib.hid (hqa.job (y := ⟨⟨a1, a2, a3, a4, n1, d1⟩, pa, pc, qa, qc, x.run, x.held⟩) HX.out (vs := [.int .i64 a1, .int .i64 a2, .int .i64 a3, .bool false, .slice pa (limb n1).length pc, .slice qa (limb d1).length qc, .int .i64 a4]) rfl (by simp) hg.num hg.den HOJ.out)
  obtain ⟨b0, b1, b2, b3, b4, b5, b6, -⟩ := hqa.entry HX.out
  have f0 := hqa.cold (i * 9)
  have f1 := hqa.cold (i * 9 + 1)
  have f2 := hqa.cold (i * 9 + 2)
  have f3 := hqa.cold (i * 9 + 3)
  have f4 := hqa.cold (i * 9 + 4)
  have f5 := hqa.cold (i * 9 + 5)
  have f6 := hqa.cold (i * 9 + 6)
  have dd1 := hqa.c1
  have hne := hqa.ne
  clear hg hqa
  have HST := Lib.hid (stable_as HJOB.out.1.q (by rw [List.length_set]; exact HL.out) HJOB.out.1.c1)
  have HTT := Lib.hid (HJOB.out.2 w HG.out.pu.t)
  simp only [World.setCells, Nat.add_assoc, Nat.reduceAdd] at HST HTT
  clear HJOB
  go_wp2_with (go_at_call 23; (with_reducible refine HST.out.mono ?_); rintro e w5 ⟨rfl, L', hp, hs, hq, ht⟩; have HP := Lib.hid hp; have HSS := Lib.hid hs; have HQ5 := Lib.hid hq; have HT5 := Lib.hid ht; clear hp hs hq ht)
  go_ret
  exact ⟨rfl, ⟨⟨a1, a2, a3, a4, n1, d1⟩, pa, pc, qa, qc, x.run, x.held⟩, L', rfl, rfl, rfl, HP.out, HSS.out, HQ5.out, HTT.out.trans HT5.out⟩

set_option maxRecDepth 20000 in
set_option maxHeartbeats 4000000 in
theorem put_new {B qb : Nat} {slots : Int} {L : List En} {w : World} (h : Qp B qb slots L w) (hB : B ≤ w.heap.size) (hl : L.length ≤ 18) {j : Jb} {an ad : Option Addr} {anc adc : Nat} (oj : OkJ j) (h1 : Ru w (.slice an (limb j.n).length anc) (limb j.n)) (h2 : Ru w (.slice ad (limb j.d).length adc) (limb j.d))
    (hi : idxF (j.vol, j.frag) L = -1) :
    Calls Try.prog 10 #[.pointer (some ⟨qb, 0, none⟩), jv j (.slice an (limb j.n).length anc) (.slice ad (limb j.d).length adc)] w (PutPost B qb slots j false false (fun y => L ++ [y]) w) := by
  (
    have HBX := Lib.hid (Holds.new w (jc j (.slice an (limb j.n).length anc) (.slice ad (limb j.d).length adc)) 33)
    have HTY := Lib.hid (TyB.new w (jc j (.slice an (limb j.n).length anc) (.slice ad (limb j.d).length adc)) 33)
    have hba := below_alloc w (.cells (jc j (.slice an (limb j.n).length anc) (.slice ad (limb j.d).length adc)) 33)
    have HBA := Lib.hid hba
    have HR1 := Lib.hid (h1.keep hba)
    have HR2 := Lib.hid (h2.keep hba)
    have HQ0 := Lib.hid (h.keep hba)
    have KV := Lib.hid (valid_as oj HR1.out.rd HR2.out.rd)
    have HOJ := Lib.hid oj
    have HL := Lib.hid hl
    have HI := Lib.hid hi
    have HBB := Lib.hid hB
    clear h h1 h2 hba oj hi hB
    obtain ⟨a1, a2, a3, a4, n1, d1⟩ := j
    unfold PutPost
    go_enter Try.func10, Try.ntmps10
    obtain ⟨s0, s1, s2, s3, s4, s5, s6, -⟩ := HBX.out.lay7
    go_wp2_with (first
      | (go_at_call 20; (with_reducible refine KV.out.mono ?_); rintro e w1 ⟨rfl, hb⟩; have HB1 := Lib.hid (HBA.out.trans (hb.mono HBA.out.size)); have HX1 := Lib.hid (HBX.out.keep hb); have HT1 := Lib.hid (HTY.out.keep hb); have HQ1 := Lib.hid (HQ0.out.keep hb); have HU1 := Lib.hid (HR1.out.keep hb); have HV1 := Lib.hid (HR2.out.keep hb); clear s0 s1 s2 s3 s4 s5 s6; obtain ⟨s0, s1, s2, s3, s4, s5, s6, -⟩ := HX1.out.lay7; clear hb)
      | (go_at_call 21; (with_reducible refine (key_as ⟨a1, a2, a3, a4, n1, d1⟩ _ _ _ _ _ _ _).mono ?_); rintro e w2 ⟨rfl, hb⟩; have HB2 := Lib.hid (HB1.out.trans (hb.mono HB1.out.size)); have HX2 := Lib.hid (HX1.out.keep hb); have HT2 := Lib.hid (HT1.out.keep hb); have HQ2 := Lib.hid (HQ1.out.keep hb); have HU2 := Lib.hid (HU1.out.keep hb); have HV2 := Lib.hid (HV1.out.keep hb); have KF := Lib.hid (find_as HQ2.out (by have := HL.out; omega) (a1, a2) HI.out); clear s0 s1 s2 s3 s4 s5 s6; clear hb)
      | (go_at_call 18; (with_reducible refine KF.out.mono ?_); rintro e w3 ⟨rfl, hb⟩; have HB3 := Lib.hid (HB2.out.trans (hb.mono HB2.out.size)); have HX3 := Lib.hid (HX2.out.keep hb); have HT3 := Lib.hid (HT2.out.keep hb); have HQ3 := Lib.hid (HQ2.out.keep hb); have HU3 := Lib.hid (HU2.out.keep hb); have HV3 := Lib.hid (HV2.out.keep hb); clear hb)))
  obtain ⟨v, hv1, -⟩ := HQ3.out.row
  have HPU := Lib.hid (show Pv B qb w.heap.size slots L v (jc ⟨a1, a2, a3, a4, n1, d1⟩ (.slice an (limb n1).length anc) (.slice ad (limb d1).length adc)) w ⟨⟨a1, a2, a3, a4, n1, d1⟩, an, anc, ad, adc, false, false⟩ w3 from ⟨⟨HQ3.out, ⟨hv1, HX3.out⟩, HT3.out, Qt.of_below HB3.out B⟩, HU3.out, HV3.out⟩)
  have HB4 := Lib.hid (show B ≤ w.heap.size from HBB.out)
  clear hv1
  refine wp_region_pick_tail (Pb qb w.heap.size v (jc ⟨a1, a2, a3, a4, n1, d1⟩ (.slice an (limb n1).length anc) (.slice ad (limb d1).length adc))) (Pv B qb w.heap.size slots L v (jc ⟨a1, a2, a3, a4, n1, d1⟩ (.slice an (limb n1).length anc) (.slice ad (limb d1).length adc)) w ⟨⟨a1, a2, a3, a4, n1, d1⟩, an, anc, ad, adc, false, false⟩) [0, 1, 2, 3, 4, 5] 4 10 (by kernel_rfl) ?_ (fun _ _ h hb => h.keep hb) (fun _ h => h.pu.see) HPU.out ?_
  · kernel_rfl
  repeat (apply pRow_plain
          · exact rfl
          · exact rfl
          · intro wg hg
            ((obtain ⟨s0, s1, s2, s3, s4, s5, s6, -⟩ := hg.box.lay7; have dd1 := hg.c1))
            go_simp
            first
              | exact rfl
              | exact Below.refl _ _
              | exact ⟨Below.refl _ _, rfl⟩
              | ((fail))
          intro K hK
          go_simp
          refine hK _ ?_
          clear hK K)
  refine pRow_nil ?_
  refine lAnyL_step [6] ?_ (by simp) (by decide) ?_
  · kernel_rfl
  intro k hk
  obtain rfl : k = 6 := by simpa using hk
  refine lOp_ex (ι := Option Addr × Nat × Option Addr × Nat) (fun p => jv ⟨a1, a2, a3, a4, n1, d1⟩ (.slice p.1 (limb n1).length p.2.1) (.slice p.2.2.1 (limb d1).length p.2.2.2)) (fun p => Pv B qb w.heap.size slots L v (jc ⟨a1, a2, a3, a4, n1, d1⟩ (.slice an (limb n1).length anc) (.slice ad (limb d1).length adc)) w ⟨⟨a1, a2, a3, a4, n1, d1⟩, p.1, p.2.1, p.2.2.1, p.2.2.2, false, false⟩) ?_ rfl rfl (fun _ _ _ h hb => h.keep hb) (fun _ _ h => h.pu.see) ?_ ?_
  · rintro ⟨p1, p2, p3, p4⟩ ⟨q1, q2, q3, q4⟩ he
    cases he
    rfl
  · intro wg hg
    go_simp
    with_reducible refine (clone_as (j := ⟨a1, a2, a3, a4, n1, d1⟩) hg.num.rd hg.den.rd).mono ?_
    rintro e w' ⟨pa, pc, qa, qc, rfl, r1, r2, hb⟩
    exact ⟨_, rfl, pa, pc, qa, qc, rfl, hg.pu.keep hb, r1, r2⟩
  rintro ⟨pa, pc, qa, qc⟩
  go_simp
  refine lAnyL_step [7] ?_ (by simp) (by decide) ?_
  · kernel_rfl
  intro k hk
  obtain rfl : k = 7 := by simpa using hk
  refine lOp_same (.agg (ec (En.mk ⟨a1, a2, a3, a4, n1, d1⟩ pa pc qa qc false false))) rfl rfl ?_ ?_
  · intro wg hg
    go_simp
    try exact Below.refl _ _
  go_simp
  refine lAnyL_step [8] ?_ (by simp) (by decide) ?_
  · kernel_rfl
  intro k hk
  obtain rfl : k = 8 := by simpa using hk
  refine lOp_ex (ι := Nat) (fun b => .slice (some ⟨b, 0, none⟩) 1 1) (fun b => Pw B qb w.heap.size slots L v (jc ⟨a1, a2, a3, a4, n1, d1⟩ (.slice an (limb n1).length anc) (.slice ad (limb d1).length adc)) w (En.mk ⟨a1, a2, a3, a4, n1, d1⟩ pa pc qa qc false false) b) ?_ rfl rfl (fun _ _ _ h hb => h.keep hb) (fun _ _ h => h.pv.pu.see) ?_ ?_
  · intro x y he
    cases he
    rfl
  · intro wg hg
    have HK := hg.build
    go_simp
    try exact ⟨_, rfl, HK⟩
  intro b
  go_simp
  refine lAnyL_step [9] ?_ (by simp) (by decide) ?_
  · kernel_rfl
  intro k hk
  obtain rfl : k = 9 := by simpa using hk
  refine lOp_ex (ι := Option Addr × Nat) (fun p => .slice p.1 (L ++ [En.mk ⟨a1, a2, a3, a4, n1, d1⟩ pa pc qa qc false false]).length p.2) (fun p => Px B qb w.heap.size slots L v (jc ⟨a1, a2, a3, a4, n1, d1⟩ (.slice an (limb n1).length anc) (.slice ad (limb d1).length adc)) w (En.mk ⟨a1, a2, a3, a4, n1, d1⟩ pa pc qa qc false false) (.slice p.1 (L ++ [En.mk ⟨a1, a2, a3, a4, n1, d1⟩ pa pc qa qc false false]).length p.2)) ?_ rfl rfl (fun _ _ _ h hb => h.keep hb) (fun _ _ h => h.see) ?_ ?_
  · rintro ⟨p1, p2⟩ ⟨q1, q2⟩ he
    cases he
    rfl
  · intro wg hg
    exact sUpon_grow _ _ rfl rfl rfl hg (Nat.le_of_lt (Nat.lt_of_le_of_lt hg.pv.pu.q.base hg.pv.pu.q.ty.lt)) (by have := HL.out; omega)
  rintro ⟨p, cp⟩
  go_simp
  refine ⟨?_, ?_⟩
  · kernel_rfl
  intro wg hg
  have hg' : Px B qb w.heap.size slots L v (jc ⟨a1, a2, a3, a4, n1, d1⟩ (.slice an (limb n1).length anc) (.slice ad (limb d1).length adc)) w (En.mk ⟨a1, a2, a3, a4, n1, d1⟩ pa pc qa qc false false) (.slice p (L ++ [En.mk ⟨a1, a2, a3, a4, n1, d1⟩ pa pc qa qc false false]).length cp) wg := by simpa using hg
  have HG := Lib.hid hg'
  have hok : ∀ x ∈ L ++ [En.mk ⟨a1, a2, a3, a4, n1, d1⟩ pa pc qa qc false false], OkJ x.j := fun x hx => by
    rcases List.mem_append.1 hx with hx | hx
    · exact HQ3.out.ok x hx
    · rw [List.mem_singleton.1 hx]; exact HOJ.out
  obtain ⟨hq4, ht4⟩ := hg'.put hok
  have hlen : (L ++ [En.mk ⟨a1, a2, a3, a4, n1, d1⟩ pa pc qa qc false false]).length = L.length + 1 := by simp
  rw [hlen] at hq4 ht4
  obtain ⟨u, hu⟩ := hg'.head.c1
  have hth := hg'.head.thaw 1
  have HT4 := Lib.hid ht4
  have HST := Lib.hid (stable_as hq4 (by rw [hlen]; have := HL.out; omega) (World.cell?_setCell_same _ _ _ hu))
  clear hg hg' hq4 ht4 hok hlen
  go_wp2_with (go_at_call 23; (with_reducible refine HST.out.mono ?_); rintro e w5 ⟨rfl, L', hp, hs, hq, ht⟩; have HP := Lib.hid hp; have HSS := Lib.hid hs; have HQ5 := Lib.hid hq; have HT5 := Lib.hid ht; clear hp hs hq ht)
  go_ret
  exact ⟨rfl, En.mk ⟨a1, a2, a3, a4, n1, d1⟩ pa pc qa qc false false, L', rfl, rfl, rfl, HP.out, HSS.out, HQ5.out, HT4.out.trans HT5.out⟩
end Go.Proofs.Ytgnmolleaengaaa
