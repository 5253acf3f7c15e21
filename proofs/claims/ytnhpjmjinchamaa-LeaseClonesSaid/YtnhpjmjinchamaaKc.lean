/- The walk of LeaseClones. -/
import Derived.Test.YtnhpjmjinchamaaKa
import Derived.Test.YtnhpjmjinchamaaKb
import Derived.Test.YtnhpjmjinchamaaPa
set_option linter.unusedVariables false
set_option linter.unusedSimpArgs false
set_option linter.unnecessarySimpa false
namespace Go.Proofs.Ytnhpjmjinchamaa
open Go Go.RowKit Go.MapKept

section
variable {w : World} {B : Nat} {i : Ids} {rb N : Nat} {T : Tb} {R : Rf} {wr w' : World}
theorem Py.step {e : Ending} {o : Opc} (h : Py w B i rb N T R wr) (hd : DoPost (N + 1) B i rb (stepT T o) wr e w') : e = .returned (.bool true) ∧ ∃ R', Py w B i rb (N + 1) (stepT T o) R' w' := by
  obtain ⟨h1, R', h2, h3, h4⟩ := hd
  exact ⟨h1, R', h3, h2, h.below.trans (h4.below h.own h.below.size), h.own⟩
/-- the clones' state -/
theorem Py.clone {w2 w3 : World} {j : Ids} (h : Py w B i rb N T R wr) (hj : ∀ s ∈ j.all, wr.heap.size ≤ s) (ht : TbAt w2 j T) (hb2 : Below wr.heap.size wr w2) (hr : RfAt w3 w2.heap.size w2.heap.size R) (hb3 : Below w2.heap.size w2 w3) :
    Py wr w2.heap.size j w2.heap.size N T R w3 :=
  ⟨⟨ht.below hb3, hr, ht.lt⟩, h.rel, hb2.trans (hb3.mono hb2.size), fun s hs => by
    rcases List.mem_cons.1 hs with rfl | hs
    · exact hb2.size
    · exact hj s hs⟩
end

/-- a call of the list, and what near makes of it -/
theorem op_at {w : World} {a : Option Addr} {n cap : Nat} {f : Nat → Int × Int × Int × Int × Int}
    (hc : ∀ i, i < n → ∃ b off, a = some ⟨b, off, none⟩ ∧ b < w.heap.size ∧ ∀ j u, [Value.int .i64 (f i).1, .int .i64 (f i).2.1, .int .i64 (f i).2.2.1, .int .i64 (f i).2.2.2.1, .int .i64 (f i).2.2.2.2][j]? = some u → w.cell? ⟨b, off + i * 5 + j, none⟩ = some u)
    (hf : ∀ i, In64 (f i).1 ∧ In64 (f i).2.1 ∧ In64 (f i).2.2.1 ∧ In64 (f i).2.2.2.1 ∧ In64 (f i).2.2.2.2) {k : Nat} (hk : k < n) (_ : cap = cap) :
    ∃ b off kd vo fr dr ex pk pv pf pd px, a = some ⟨b, off, none⟩ ∧ (∀ wx, Below w.heap.size w wx → wx.cell? ⟨b, off + k * 5, none⟩ = some (.int .i64 kd) ∧ wx.cell? ⟨b, off + k * 5 + 1, none⟩ = some (.int .i64 vo) ∧ wx.cell? ⟨b, off + k * 5 + 2, none⟩ = some (.int .i64 fr) ∧ wx.cell? ⟨b, off + k * 5 + 3, none⟩ = some (.int .i64 dr) ∧ wx.cell? ⟨b, off + k * 5 + 4, none⟩ = some (.int .i64 ex)) ∧
      (∀ wx, Calls Try.prog 16 #[ov ⟨kd, vo, fr, dr, ex⟩] wx fun e w' => e = .returned (ov ⟨pk, pv, pf, pd, px⟩) ∧ Below wx.heap.size wx w') ∧ (0 ≤ pv ∧ pv < 3) ∧ (0 ≤ pf ∧ pf < 3) := by
  obtain ⟨b, off, rfl, hb, hcc⟩ := hc k hk
  refine ⟨b, off, (f k).1, (f k).2.1, (f k).2.2.1, (f k).2.2.2.1, (f k).2.2.2.2, (f k).1, (f k).2.1 % 3, (f k).2.2.1 % 3, (f k).2.2.2.1 % 5, (f k).2.2.2.2 % 3, rfl, fun wx hw => ⟨?_, ?_, ?_, ?_, ?_⟩, fun wx => ?_, by omega, by omega⟩
  · exact (hw.cell (p := ⟨b, off + k * 5, none⟩) hb).trans (hcc 0 _ rfl)
  · exact (hw.cell (p := ⟨b, off + k * 5 + 1, none⟩) hb).trans (hcc 1 _ rfl)
  · exact (hw.cell (p := ⟨b, off + k * 5 + 2, none⟩) hb).trans (hcc 2 _ rfl)
  · exact (hw.cell (p := ⟨b, off + k * 5 + 3, none⟩) hb).trans (hcc 3 _ rfl)
  · exact (hw.cell (p := ⟨b, off + k * 5 + 4, none⟩) hb).trans (hcc 4 _ rfl)
  · exact near_any ⟨(f k).1, (f k).2.1, (f k).2.2.1, (f k).2.2.2.1, (f k).2.2.2.2⟩ ⟨(hf k).2.1, (hf k).2.2.1, (hf k).2.2.2.1, (hf k).2.2.2.2⟩ wx

set_option maxRecDepth 20000 in
set_option maxHeartbeats 16000000 in
theorem clones_law (a a2 : Option Addr) (n cap n2 cap2 : Nat) (f f2 : Nat → Int × Int × Int × Int × Int) (w : World)
    (hl : Seq w (.slice a n cap) 5 n (fun i => [.int .i64 (f i).1, .int .i64 (f i).2.1, .int .i64 (f i).2.2.1, .int .i64 (f i).2.2.2.1, .int .i64 (f i).2.2.2.2]))
    (hl2 : Seq w (.slice a2 n2 cap2) 5 n2 (fun i => [.int .i64 (f2 i).1, .int .i64 (f2 i).2.1, .int .i64 (f2 i).2.2.1, .int .i64 (f2 i).2.2.2.1, .int .i64 (f2 i).2.2.2.2]))
    (hf : ∀ i, In64 (f i).1 ∧ In64 (f i).2.1 ∧ In64 (f i).2.2.1 ∧ In64 (f i).2.2.2.1 ∧ In64 (f i).2.2.2.2)
    (hf2 : ∀ i, In64 (f2 i).1 ∧ In64 (f2 i).2.1 ∧ In64 (f2 i).2.2.1 ∧ In64 (f2 i).2.2.2.1 ∧ In64 (f2 i).2.2.2.2) :
    Calls Try.prog 9 #[.slice a n cap, .slice a2 n2 cap2] w fun e w' => e = .returned (.bool true) ∧ Below w.heap.size w w' := by
  obtain ⟨a', cap', hv, hcap, hn63, hcell⟩ := hl
  cases hv
  obtain ⟨a', cap', hv, hcap2, hn632, hcell2⟩ := hl2
  cases hv
  have HO := fun k hk => Lib.hid (op_at hcell hf (k := k) hk (Eq.refl cap))
  have HO2 := fun k hk => Lib.hid (op_at hcell2 hf2 (k := k) hk (Eq.refl cap2))
  clear hcell hcap hf hcell2 hcap2 hf2
  by_cases h40 : 40 < n
  · have qa : decide ((40 : Int) < (n : Int)) = true := by simp; omega
    go_enter Try.func9, Try.ntmps9
    go_wp2_with (first
      | (go_at_call 10; (with_reducible refine (awake_any _).mono ?_); rintro e w1 ⟨rfl, hb⟩; have HB := Lib.hid hb; clear hb))
    go_ret
    exact ⟨rfl, HB.out⟩
  have qa : decide ((40 : Int) < (n : Int)) = false := by simp; omega
  by_cases h41 : 40 < n2
  · have qb : decide ((40 : Int) < (n2 : Int)) = true := by simp; omega
    go_enter Try.func9, Try.ntmps9
    go_wp2_with (first
      | (go_at_call 10; (with_reducible refine (awake_any _).mono ?_); rintro e w1 ⟨rfl, hb⟩; have HB := Lib.hid hb; clear hb))
    go_ret
    exact ⟨rfl, HB.out⟩
  have qb : decide ((40 : Int) < (n2 : Int)) = false := by simp; omega
  go_enter Try.func9, Try.ntmps9
  go_wp2_with (first
    | (go_at_call 11; (with_reducible refine (new_any _).mono ?_); rintro e w1 ⟨i, rfl, hs, ht, hb⟩; have HL := Lib.hid (Py.mk (w := w) (both_start ht) Rel.start (hb.alloc hb.size _) (fun s h => (List.mem_cons.1 h).elim (fun e => e ▸ hb.size) (hs s))); clear hs ht hb))
  go_loopw [7] (fun kk wr => ∃ (k : Nat) (T : Tb) (R : Rf), kk = .int .i64 k ∧ k ≤ n ∧ Hid (Py w w1.heap.size i w1.heap.size k T R wr)) (fun kk _ => n - (intOf kk).toNat)
  case atStart => exact ⟨0, noT, noR, rfl, by omega, HL⟩
  case round =>
    rename World => wr
    obtain ⟨k, T, R, rfl, hk, HV⟩ := hrel
    clear HL
    by_cases hkn : k < n
    · obtain ⟨b, off, kd, vo, fr, dr, ex, pk, pv, pf, pd, px, rfl, hcc, hnear, -, -⟩ := (HO k hkn).out
      obtain ⟨d0, d1, d2, d3, d4⟩ := hcc _ HV.out.below
      have HN := fun w => Lib.hid (hnear w)
      have hk8 : k ≤ 800 := by omega
      clear hcc hnear HO HO2
      go_wp2_with (first
        | (go_at_call 16; (with_reducible refine (HN _).out.mono ?_); rintro e w2 ⟨rfl, hb2⟩; have HV2 := Lib.hid (HV.out.call hb2); clear hb2)
        | (go_at_call 15; (with_reducible refine (do_any HV2.out.both HV2.out.rel hk8 ⟨pk, pv, pf, pd, px⟩).mono ?_); intro e w3 ho; obtain ⟨rfl, R', HV3⟩ := HV2.out.step ho; have HV3 := Lib.hid HV3; clear ho))
      go_roundw
      case rel => exact ⟨k + 1, _, R', by go_num, by omega, HV3⟩
      case measure => simp [intOf]; omega
    · obtain rfl : k = n := by omega
      clear HO
      go_wp2_with (first
        | (go_at_call 32; (with_reducible refine (clone_any HV.out.both.tb).mono ?_); rintro e w2 ⟨j, rfl, hj, htj, hb2⟩; have HV2 := Lib.hid (HV.out.call hb2); have HJ := Lib.hid (And.intro hj (And.intro htj hb2)); clear hj htj hb2)
        | (go_at_call 33; (with_reducible refine (rclone_any HV2.out.both.rf).mono ?_); rintro e w3 ⟨rfl, hrf, hb3⟩; have HX0 := Lib.hid (HV.out.clone HJ.out.1 HJ.out.2.1 HJ.out.2.2 hrf hb3); clear hrf hb3 HJ HV2))
      have HWB := Lib.hid HV.out.below
      go_loopw [10] (fun kk wx => ∃ (l : Nat) (T' : Tb) (R' : Rf), kk = .int .i64 l ∧ l ≤ n2 ∧ Hid (Py wr w2.heap.size j w2.heap.size (k + l) T' R' wx)) (fun kk _ => n2 - (intOf kk).toNat)
      case atStart => exact ⟨0, T, R, rfl, by omega, HX0⟩
      case round =>
        rename World => wx
        obtain ⟨l, T', R', rfl, hl, HX⟩ := hrel
        clear HX0
        by_cases hln : l < n2
        · obtain ⟨b, off, kd, vo, fr, dr, ex, pk, pv, pf, pd, px, rfl, hcc, hnear, -, -⟩ := (HO2 l hln).out
          have HCC := Lib.hid hcc
          obtain ⟨d0, d1, d2, d3, d4⟩ := hcc _ (HWB.out.trans (HX.out.below.mono HWB.out.size))
          have HN := fun w => Lib.hid (hnear w)
          have hk8 : k + l ≤ 800 := by omega
          have hk9 : k + l + 1 ≤ 900 := by omega
          have tok1 : True := trivial
          clear hcc hnear HO2
          go_wp2_with (first
            | (go_at_call 16; have _t := tok1; (with_reducible refine (HN _).out.mono ?_); rintro e w4 ⟨rfl, hb4⟩; have HX2 := Lib.hid (HX.out.call hb4); clear hb4 tok1 _t)
            | (go_at_call 15; (with_reducible refine (do_any HX2.out.both HX2.out.rel hk8 ⟨pk, pv, pf, pd, px⟩).mono ?_); intro e w5 ho; obtain ⟨rfl, R'', HX3⟩ := HX2.out.step ho; have HX3 := Lib.hid HX3; obtain ⟨e0, e1, e2, e3, e4⟩ := HCC.out _ (HWB.out.trans (HX3.out.below.mono HWB.out.size)); clear ho)
            | (go_at_call 16; (with_reducible refine (HN _).out.mono ?_); rintro e w6 ⟨rfl, hb6⟩; have HX4 := Lib.hid (HX3.out.call hb6); clear hb6)
            | (go_at_call 27; (with_reducible refine (alike_as HX4.out.both HX4.out.rel hk9 ⟨pk, pv, pf, pd, px⟩).mono ?_); rintro e w7 ⟨rfl, hb7⟩; have HX5 := Lib.hid (HX4.out.call hb7); clear hb7))
          go_roundw
          case rel => exact ⟨l + 1, _, R'', by go_num, by omega, HX5⟩
          case measure => simp [intOf]; omega
        · obtain rfl : l = n2 := by omega
          have HZ0 := Lib.hid (HV.out.call HX.out.below)
          clear HX
          go_wp2_with fail
          go_loopw [11] (fun kk wz => ∃ (m : Nat), kk = .int .i64 m ∧ m ≤ l ∧ Hid (Py w w1.heap.size i w1.heap.size k T R wz)) (fun kk _ => l - (intOf kk).toNat)
          case atStart => exact ⟨0, rfl, by omega, HZ0⟩
          case round =>
            rename World => wz
            obtain ⟨m, rfl, hm, HZ⟩ := hrel
            clear HZ0
            by_cases hmn : m < l
            · obtain ⟨b, off, kd, vo, fr, dr, ex, pk, pv, pf, pd, px, rfl, hcc, hnear, -, -⟩ := (HO2 m hmn).out
              obtain ⟨d0, d1, d2, d3, d4⟩ := hcc _ HZ.out.below
              have HN := fun w => Lib.hid (hnear w)
              have hk9 : k ≤ 900 := by omega
              clear hcc hnear HO2
              go_wp2_with (first
                | (go_at_call 16; (with_reducible refine (HN _).out.mono ?_); rintro e w4 ⟨rfl, hb4⟩; have HZ2 := Lib.hid (HZ.out.call hb4); clear hb4)
                | (go_at_call 27; (with_reducible refine (alike_as HZ2.out.both HZ2.out.rel hk9 ⟨pk, pv, pf, pd, px⟩).mono ?_); rintro e w7 ⟨rfl, hb7⟩; have HZ3 := Lib.hid (HZ2.out.call hb7); clear hb7))
              go_roundw
              case rel => exact ⟨m + 1, by go_num, by omega, HZ3⟩
              case measure => simp [intOf]; omega
            · obtain rfl : m = l := by omega
              clear HO2
              go_wp2_with fail
              obtain ⟨vL, hv, hrow, -⟩ := HZ.out.both.rf.row
              obtain ⟨ra, rc, rfl⟩ := rows_val hrow
              have HRD := Lib.hid (RdL.of_rows hrow)
              obtain ⟨nl, hnl⟩ : ∃ n, R.L.length = n := ⟨_, rfl⟩
              rw [hnl] at hv HRD
              have HNN := Lib.hid hnl
              have HRW := Lib.hid hv
              have HRL := Lib.hid HZ.out.both.rf.lt
              have hk9 : k ≤ 900 := by omega
              clear hv hrow hnl
              refine wp_region_pick (Below wz.heap.size wz) (Below wz.heap.size wz) [0, 1, 2, 4, 5, 6, 7] 4 rfl (by kernel_rfl) (by kernel_rfl) (by kernel_rfl) (fun _ _ h hb => h.trans (hb.mono h.size)) (fun _ h => h) (Below.refl _ _) ?_
              repeat first
                       | (apply pRow_plain
                          · exact rfl
                          · exact rfl
                          · intro wg hg
                            ((have g6 := (hg.cell (p := ⟨w1.heap.size, 96, none⟩) HRL.out).trans HRW.out))
                            go_simp
                            first
                              | exact rfl
                              | exact Below.refl _ _
                              | exact ⟨Below.refl _ _, rfl⟩
                              | ((first
| ((with_reducible refine (awake_any _).mono ?_); rintro e w' ⟨rfl, hb⟩; exact ⟨rfl, hb⟩)))
                          intro K hK
                          go_simp
                          refine hK _ ?_
                          clear hK K)
                       | (apply pRow_step
                          · exact rfl
                          · go_simp; done
                          · intro wg hg
                            ((have g6 := (hg.cell (p := ⟨w1.heap.size, 96, none⟩) HRL.out).trans HRW.out))
                            go_simp
                            first
                              | exact rfl
                              | exact Below.refl _ _
                              | exact ⟨Below.refl _ _, rfl⟩
                              | ((first
| ((with_reducible refine (awake_any _).mono ?_); rintro e w' ⟨rfl, hb⟩; exact ⟨rfl, hb⟩)))
                          intro K hK
                          go_simp
                          refine hK _ ?_
                          clear hK K)
              apply pRow_nil
              refine lAny_step [3] (by kernel_rfl) (by simp) fun j hj => ?_
              obtain rfl : j = 3 := by simpa using hj
              refine lOp_guarded rfl (fun u w' => (∃ p c, u = .slice p nl c ∧ RdL w' (.slice p nl c) R.L) ∧ Below wz.heap.size wz w') (by go_simp; done) ?_ (fun u w' h => h.2) ?_ ?_
              · rintro u w1' w2' ⟨⟨p, c, rfl, h1⟩, h2⟩ hb
                exact ⟨⟨p, c, rfl, h1.keep hb⟩, h2.trans (hb.mono h2.size)⟩
              · intro wg hg
                go_simp
                refine (leases_as (HZ.out.call hg).both.tb HZ.out.rel hk9).mono ?_
                rintro e w' ⟨hb, p, c, rfl, hrd⟩
                rw [HNN.out] at hrd ⊢
                exact ⟨_, rfl, ⟨p, c, rfl, hrd⟩, hg.trans (hb.mono hg.size)⟩
              rintro u ⟨wq, ⟨p, c, rfl, hq⟩, -⟩ K hK
              go_simp
              refine hK _ ?_
              clear hK K hq wq
              refine lAny_step [8] (by kernel_rfl) (by simp) fun j hj => ?_
              obtain rfl : j = 8 := by simpa using hj
              refine lOp_guarded rfl (fun u w' => u = .bool true ∧ Below wz.heap.size wz w') (by go_simp; done) ?_ (fun u w' h => h.2) ?_ ?_
              · rintro u w1' w2' ⟨rfl, h2⟩ hb
                exact ⟨rfl, h2.trans (hb.mono h2.size)⟩
              · rintro wg ⟨⟨p', c', he, hrd⟩, hg⟩
                cases he
                have hrd2 := HRD.out.keep hg
                go_simp
                refine (same_as _ _ R.L _ hrd hrd2).mono ?_
                rintro e w' ⟨rfl, hb⟩
                exact ⟨_, rfl, rfl, hg.trans (hb.mono hg.size)⟩
              rintro u ⟨wq, rfl, -⟩ K hK
              go_simp
              refine hK _ ?_
              clear hK K wq
              refine lAny_rest [9, 10] (by kernel_rfl) (by kernel_rfl) (by kernel_rfl) ?_
              repeat first
                       | (apply pRow_plain
                          · exact rfl
                          · exact rfl
                          · intro wg hg
                            ((skip))
                            go_simp
                            first
                              | exact rfl
                              | exact Below.refl _ _
                              | exact ⟨Below.refl _ _, rfl⟩
                              | ((skip))
                          intro K hK
                          go_simp
                          refine hK _ ?_
                          clear hK K)
                       | (apply pRow_step
                          · exact rfl
                          · go_simp; done
                          · intro wg hg
                            ((skip))
                            go_simp
                            first
                              | exact rfl
                              | exact Below.refl _ _
                              | exact ⟨Below.refl _ _, rfl⟩
                              | ((skip))
                          intro K hK
                          go_simp
                          refine hK _ ?_
                          clear hK K)
              apply pRow_nil
              rintro w9 ⟨-, hq⟩
              have B13 := Lib.hid (HZ.out.call hq).below
              clear hq
              go_wp2_with fail
              go_ret
              exact ⟨rfl, B13.out⟩
end Go.Proofs.Ytnhpjmjinchamaa
