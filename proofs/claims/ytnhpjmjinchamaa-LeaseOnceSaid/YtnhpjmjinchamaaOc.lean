/- The walk of LeaseOnce. -/
import Derived.Test.YtnhpjmjinchamaaOa
import Derived.Deep.CutBlock
import Derived.Deep.CutRange
import Derived.BigQuiet
set_option linter.unusedVariables false
set_option linter.unusedSimpArgs false
set_option linter.unnecessarySimpa false
namespace Go.Proofs.Ytnhpjmjinchamaa
open Go Go.RowKit

section
variable {P : Program} {ops : Array Oper} {S T : World → Prop} {i : Nat} {o : Oper} {a : Act} {K : (World → Prop) → Act → Prop}
/-- a special operation that yields a new block -/
theorem lOp_box {T' : Nat → World → Prop} (hi : ops[i]? = some o) (hg : o.guard = none) (h1 : ∀ b, Stable (T' b)) (h2 : ∀ b w, T' b w → S w)
    (hv : ∀ w, T w → sUpon P (fun u w' => ∃ b, u = .pointer (some ⟨b, 0, none⟩) ∧ T' b w') ((execOp a.eval o).run P w)) (hk : ∀ b, K (T' b) (a.put o.dst (.pointer (some ⟨b, 0, none⟩)))) : lOp P ops S T i K a := by
  refine lOp_special' hi (fun u w' => ∃ b, u = .pointer (some ⟨b, 0, none⟩) ∧ T' b w') hg ?_ ?_ hv ?_
  · rintro u w w' ⟨b, rfl, h⟩ hb; exact ⟨b, rfl, h1 b _ _ h hb⟩
  · rintro u w ⟨b, rfl, h⟩; exact h2 b w h
  · rintro u ⟨w, b, rfl, hw⟩
    have e : (fun w' => ∃ b', Value.pointer (some ⟨b, 0, none⟩) = .pointer (some ⟨b', 0, none⟩) ∧ T' b' w') = T' b := by
      funext w
      refine propext ⟨?_, fun h => ⟨b, rfl, h⟩⟩
      rintro ⟨b', h, hw⟩
      cases h
      exact hw
    rw [e]
    exact hk b
end

theorem below_drawn (w : World) (n : Nat) : Below w.heap.size w (w.drewN n) := ⟨rfl, rfl, rfl, Nat.le_refl _, fun _ _ => rfl⟩

/-- a block of its own since w5 -/
def Bk (w5 : World) (bx : Nat) (c : Array Value) (w' : World) : Prop := Below w5.heap.size w5 w' ∧ w5.heap.size ≤ bx ∧ Holds w' bx c
theorem Bk.grow {w5 w' w2 : World} {bx : Nat} {c : Array Value} (h : Bk w5 bx c w') (hb : Below w'.heap.size w' w2) : Bk w5 bx c w2 := ⟨h.1.trans (hb.mono h.1.size), h.2.1, h.2.2.keep hb⟩
theorem Bk.new {w5 wg : World} (hg : Below w5.heap.size w5 wg) (c : Array Value) (t : TypeId) : Bk w5 wg.heap.size c (wg.alloc (.cells c t)) := ⟨hg.alloc hg.size _, hg.size, Holds.new _ _ _⟩
theorem Bk.put6 {w5 wg : World} {bx : Nat} {c0 c1 c2 c3 c4 c5 : Value} (h : Bk w5 bx #[c0, c1, c2, c3, c4, c5] wg) (a0 a1 a2 a3 a4 a5 : Value) :
    Bk w5 bx #[a0, a1, a2, a3, a4, a5] ((((((wg.setCell ⟨bx, 0, none⟩ a0).setCell ⟨bx, 1, none⟩ a1).setCell ⟨bx, 2, none⟩ a2).setCell ⟨bx, 3, none⟩ a3).setCell ⟨bx, 4, none⟩ a4).setCell ⟨bx, 5, none⟩ a5) := by
  obtain ⟨h1, h2, h3⟩ := h
  refine ⟨(((((h1.setCell (p := ⟨bx, 0, none⟩) h2 _).setCell (p := ⟨bx, 1, none⟩) h2 _).setCell (p := ⟨bx, 2, none⟩) h2 _).setCell (p := ⟨bx, 3, none⟩) h2 _).setCell (p := ⟨bx, 4, none⟩) h2 _).setCell (p := ⟨bx, 5, none⟩) h2 _, h2, ?_⟩
  have := (((((h3.set 0 a0).set 1 a1).set 2 a2).set 3 a3).set 4 a4).set 5 a5
  simpa using this


set_option maxRecDepth 20000 in
set_option maxHeartbeats 16000000 in
theorem once_law (a : Option Addr) (n cap : Nat) (f : Nat → Int × Int × Int × Int × Int) (w : World)
    (hl : Seq w (.slice a n cap) 5 n (fun i => [.int .i64 (f i).1, .int .i64 (f i).2.1, .int .i64 (f i).2.2.1, .int .i64 (f i).2.2.2.1, .int .i64 (f i).2.2.2.2]))
    (hf : ∀ i, In64 (f i).1 ∧ In64 (f i).2.1 ∧ In64 (f i).2.2.1 ∧ In64 (f i).2.2.2.1 ∧ In64 (f i).2.2.2.2) :
    Calls Try.prog 6 #[.slice a n cap] w fun e w' => e = .returned (.bool true) ∧ Below w.heap.size w w' := by
  obtain ⟨a', cap', hv, hcap, hn63, hcell⟩ := hl
  cases hv
  have HC := Lib.hid hcell
  have HF := Lib.hid hf
  clear hcell hcap hf
  by_cases h80 : 80 < n
  · have qa : decide ((80 : Int) < (n : Int)) = true := by simp; omega
    go_enter Try.func6, Try.ntmps6
    go_wp2_with (first
      | (go_at_call 10; (with_reducible refine (awake_any _).mono ?_); rintro e w1 ⟨rfl, hb⟩; have HB := Lib.hid hb; clear hb))
    go_ret
    exact ⟨rfl, HB.out⟩
  have qa : decide ((80 : Int) < (n : Int)) = false := by simp; omega
  go_enter Try.func6, Try.ntmps6
  go_wp2_with (first
    | (go_at_call 11; (with_reducible refine (new_any _).mono ?_); rintro e w1 ⟨i, rfl, hs, ht, hb⟩; have HL := Lib.hid (On.start (w := w) ht hs hb); clear hs ht hb))
  go_loopw [5] (fun kk wr => ∃ (k : Nat) (T : Tb) (R : Rf), kk = .int .i64 k ∧ k ≤ n ∧ Hid (On w i w1.heap.size k T R T.g wr)) (fun kk _ => n - (intOf kk).toNat)
  case atStart => exact ⟨0, noT, noR, rfl, by omega, HL⟩
  case round =>
    rename World => wr
    obtain ⟨k, T, R, rfl, hk, HV⟩ := hrel
    clear HL
    obtain ⟨gb, hgb⟩ : ∃ b, w1.heap.size = b := ⟨_, rfl⟩
    rw [hgb] at HV ⊢
    clear hgb
    by_cases hkn : k < n
    · obtain ⟨b, off, rfl, hb, hcc⟩ := HC.out k hkn
      have d0 : wr.cell? ⟨b, off + k * 5, none⟩ = some (.int .i64 (f k).1) := (HV.out.below.cell (p := ⟨b, off + k * 5, none⟩) hb).trans (hcc 0 _ rfl)
      have d1 : wr.cell? ⟨b, off + k * 5 + 1, none⟩ = some (.int .i64 (f k).2.1) := (HV.out.below.cell (p := ⟨b, off + k * 5 + 1, none⟩) hb).trans (hcc 1 _ rfl)
      have d2 : wr.cell? ⟨b, off + k * 5 + 2, none⟩ = some (.int .i64 (f k).2.2.1) := (HV.out.below.cell (p := ⟨b, off + k * 5 + 2, none⟩) hb).trans (hcc 2 _ rfl)
      have d3 : wr.cell? ⟨b, off + k * 5 + 3, none⟩ = some (.int .i64 (f k).2.2.2.1) := (HV.out.below.cell (p := ⟨b, off + k * 5 + 3, none⟩) hb).trans (hcc 3 _ rfl)
      have d4 : wr.cell? ⟨b, off + k * 5 + 4, none⟩ = some (.int .i64 (f k).2.2.2.2) := (HV.out.below.cell (p := ⟨b, off + k * 5 + 4, none⟩) hb).trans (hcc 4 _ rfl)
      have hk8 : k + 1 ≤ 900 := by omega
      clear hcc
      obtain ⟨o, ho, kd, vn, fn, od, ox, hvn, hfn, he⟩ : ∃ o, nearO (opOf f k) = o ∧ ∃ kd, ∃ vn fn : Nat, ∃ od ox, vn < 3 ∧ fn < 3 ∧ o = ⟨kd, vn, fn, od, ox⟩ := by
        refine ⟨_, rfl, (opOf f k).kind, ((opOf f k).vol % 3).toNat, ((opOf f k).frag % 3).toNat, (opOf f k).drive % 5, (opOf f k).ext % 3, by omega, by omega, ?_⟩
        unfold nearO
        rw [show ((((opOf f k).vol % 3).toNat : Nat) : Int) = (opOf f k).vol % 3 by omega, show ((((opOf f k).frag % 3).toNat : Nat) : Int) = (opOf f k).frag % 3 by omega]
      have HN := fun w => Lib.hid (ho ▸ near_any (opOf f k) ⟨(HF.out k).2.1, (HF.out k).2.2.1, (HF.out k).2.2.2.1, (HF.out k).2.2.2.2⟩ w)
      subst he
      clear ho
      go_upto_block 2 with (first
        | (go_at_call 16; (with_reducible refine (HN _).out.mono ?_); rintro e w2 ⟨rfl, hb2⟩; have HV2 := Lib.hid ((HV.out.call hb2).push (oc ⟨kd, vn, fn, od, ox⟩) 42); obtain ⟨c0, c1, c2, c3, c4, z0, z1, z2, z3, z4, cz⟩ := HV2.out.box.lay5; clear hb2))
      clear HN d0 d1 d2 d3 d4
      go_cut [7, 8] from 21 to 201 (fun s7 s8 wx => ∃ (T' : Tb) (R' : Rf) (g e : Int), s7 = .int .i64 g ∧ s8 = .int .i64 e ∧ Hid (Ob w i gb (k + 1) T' R' T.g w2.heap.size (oc ⟨kd, vn, fn, od, ox⟩) wx) ∧ Hid (Gen T T' vn fn g e))
      case first =>
        as_aux_lemma =>
          have HZ := Lib.hid (small_of HV2.out.st.rel (by omega))
          by_cases h1 : kd = 1
          · subst h1
            obtain ⟨ra, rb, T', hT⟩ : ∃ a b T', placeF T vn fn od ox = ((a, b), T') := ⟨_, _, _, rfl⟩
            have HT := Lib.hid hT
            have HR := Lib.hid (HV.out.rel.place vn fn od ox).2
            rw [hT] at HR
            clear hT
            go_wp2_with (first
              | (go_at_call 23; (with_reducible refine (place_as HV2.out.st.tb HZ.out HT.out).mono ?_); intro e w6 ho; have HV3 := Lib.hid (HV2.out.turn ho HR.out); obtain ⟨rfl, -⟩ := ho))
            go_meet
            case rel => exact ⟨T', _, ra, rb, rfl, rfl, HV3, Lib.hid (gen_place HT.out)⟩
          by_cases h2 : kd = 2
          · subst h2
            obtain ⟨ra, rb, T', hT⟩ : ∃ a b T', grantF T vn fn od ox = ((a, b), T') := ⟨_, _, _, rfl⟩
            have HT := Lib.hid hT
            have HR := Lib.hid (HV.out.rel.grant vn fn od ox).2
            rw [hT] at HR
            clear hT h1
            go_wp2_with (first
              | (go_at_call 21; (with_reducible refine (grant_as HV2.out.st.tb HZ.out HT.out).mono ?_); intro e w6 ho; have HV3 := Lib.hid (HV2.out.turn ho HR.out); obtain ⟨rfl, -⟩ := ho))
            go_meet
            case rel => exact ⟨T', _, ra, rb, rfl, rfl, HV3, Lib.hid (gen_grant HT.out)⟩
          by_cases h3 : kd = 3
          · subst h3
            obtain ⟨ra, rb, T', hT⟩ : ∃ a b T', commitF T vn fn = ((a, b), T') := ⟨_, _, _, rfl⟩
            have HT := Lib.hid hT
            have HR := Lib.hid ((HV.out.rel.commit vn fn).2.1.mono (Nat.le_succ k))
            rw [hT] at HR
            clear hT h1 h2
            go_wp2_with (first
              | (go_at_call 18; (with_reducible refine (commit_as HV2.out.st.tb HT.out).mono ?_); intro e w6 ho; have HV3 := Lib.hid (HV2.out.turn ho HR.out); obtain ⟨rfl, -⟩ := ho))
            go_meet
            case rel => exact ⟨T', _, 0, 110, rfl, rfl, HV3, Lib.hid (gen_commit HT.out)⟩
          by_cases h4 : kd = 4
          · subst h4
            obtain ⟨ra, rb, T', hT⟩ : ∃ a b T', endF T vn fn = ((a, b), T') := ⟨_, _, _, rfl⟩
            have HT := Lib.hid hT
            have HR := Lib.hid ((HV.out.rel.revoke vn fn).2.mono (Nat.le_succ k))
            rw [hT] at HR
            clear hT h1 h2 h3
            go_wp2_with (first
              | (go_at_call 22; (with_reducible refine (revoke_as HV2.out.st.tb HT.out).mono ?_); intro e w6 ho; have HV3 := Lib.hid (HV2.out.turn ho HR.out); obtain ⟨rfl, -⟩ := ho))
            go_meet
            case rel => exact ⟨T', _, 0, 110, rfl, rfl, HV3, Lib.hid (gen_end HT.out)⟩
          · have q1 : (kd == 1) = false := by simpa using h1
            have q2 : (kd == 2) = false := by simpa using h2
            have q3 : (kd == 3) = false := by simpa using h3
            have q4 : (kd == 4) = false := by simpa using h4
            clear h1 h2 h3 h4
            go_wp2_with fail
            go_meet
            case rel => exact ⟨T, R, 0, 110, rfl, rfl, Lib.hid HV2.out.next, Lib.hid (.inl ⟨by simp, rfl⟩)⟩
      case rest =>
        rename World => wc
        obtain ⟨T', R', g, er, rfl, rfl, HC2, HG⟩ := hcut
        have HGS := Lib.hid (HV.out.rel.gens (vn, fn))
        clear HV HV2 c0 c1 c2 c3 c4 z0 z1 z2 z3 z4 cz
        obtain ⟨bo, hbo⟩ : ∃ b, w2.heap.size = b := ⟨_, rfl⟩
        rw [hbo] at HC2 ⊢
        clear hbo
        go_upto_if 81 with fail
        go_cut [] from 21 to 201 (fun wx => Hid (On w i gb (k + 1) T' R' T'.g wx))
        case first =>
          as_aux_lemma =>
            rcases HG.out with ⟨he, hgg⟩ | ⟨rfl, hg1, hgg⟩
            · have qe : (er == 0) = false := by simpa using he
              go_wp2_with fail
              go_meet
              case rel => exact Lib.hid (by rw [hgg]; exact HC2.out.st)
            · obtain ⟨g0, hg0⟩ : ∃ x, T.g ((vn : Int), (fn : Int)) = x := ⟨_, rfl⟩
              rw [hg0] at hg1 hgg
              have hgs := HGS.out
              rw [hg0] at hgs
              subst hg1
              have HQ := Lib.hid hgg
              have hw : IntKind.i64.wrap (g0 + 1) = g0 + 1 := IntWalk.i64_in _ (by omega)
              have HW := Lib.hid hw
              obtain ⟨y0, yf⟩ := HC2.out.giv_at hvn hfn hg0
              obtain ⟨c0, c1, c2, c3, c4, -⟩ := HC2.out.box.lay5
              have hgl := HC2.out.st.giv.lt
              clear hgg hgs hg0 hw HG HGS
              go_wp2_with fail
              have hv2 : (vn : Int) < 3 := by omega
              have hf2 : (fn : Int) < 3 := by omega
              have hw := HW.out
              go_still_tail 10, (by kernel_rfl)
              go_wp2
              clear hw y0 yf c0 c1 c2 c3 c4 hgl
              have HC4 := Lib.hid ((HC2.out.count hvn hfn (g0 + 1)).call (w' := (wc.setCell ⟨gb, vn * 3 + fn, none⟩ (.int .i64 (g0 + 1))).drew) (Below.refl _ _).drew)
              generalize (wc.setCell ⟨gb, vn * 3 + fn, none⟩ (.int .i64 (g0 + 1))).drew = w5 at *
              obtain ⟨x0, -⟩ := HC4.out.giv_at hvn hfn (upd_same _ _ _)
              obtain ⟨c0, c1, c2, c3, c4, -⟩ := HC4.out.box.lay5
              go_quiet (fail)
              go_wp2_with fail
              go_meet
              case rel => exact Lib.hid (by rw [HQ.out]; exact HC4.out.st.call (below_drawn _ _))
        case rest =>
          rename World => wd
          clear HC2 HG HGS
          obtain ⟨m, hm⟩ : ∃ m, R'.L.length = m := ⟨_, rfl⟩
          have HM := Lib.hid hm
          have hm9 : m ≤ 900 := by have := hcut.out.rel.len; omega
          clear hm
          go_wp2_with (first
            | (go_at_call 26; (with_reducible refine (leases_as hcut.out.tb hcut.out.rel hk8).mono ?_); rintro e w5 ⟨hb5, p, c, rfl, hrd⟩; rw [HM.out] at hrd ⊢; have HD := Lib.hid (hcut.out.call hb5); have HRD := Lib.hid hrd; clear hb5 hrd))
          go_loopw [10] (fun kk wx => ∃ a : Nat, kk = .int .i64 a ∧ a ≤ m ∧ Hid (Below w5.heap.size w5 wx)) (fun kk _ => m - (intOf kk).toNat)
          case atStart => exact ⟨0, rfl, by omega, Lib.hid (Below.refl _ _)⟩
          case round =>
            rename World => wx
            obtain ⟨a, rfl, ha, HX⟩ := hrel
            by_cases ham : a < m
            · obtain ⟨x, hx⟩ : ∃ l, R'.L[a]? = some l := ⟨R'.L[a]'(by have := HM.out; omega), by simp⟩
              have HXL := Lib.hid hx
              obtain ⟨bl, lo, rfl, hcx⟩ := HRD.out.cells hx
              have HCX := Lib.hid hcx
              clear hx hcx
              go_wp2_with fail
              go_loopw [11] (fun kk wy => ∃ b : Nat, kk = .int .i64 b ∧ b ≤ a ∧ Hid (Below w5.heap.size w5 wy)) (fun kk _ => a - (intOf kk).toNat)
              case atStart => exact ⟨0, rfl, by omega, HX⟩
              case round =>
                rename World => wy
                obtain ⟨b, rfl, hb, HY⟩ := hrel
                clear HX
                by_cases hba : b < a
                · obtain ⟨y, hy⟩ : ∃ l, R'.L[b]? = some l := ⟨R'.L[b]'(by have := HM.out; omega), by simp⟩
                  obtain ⟨t1, t2⟩ := two_differ HD.out.rel HXL.out hy hba
                  obtain ⟨bl', lo', he, hcy⟩ := HRD.out.cells hy
                  cases he
                  obtain ⟨x0, x1, x2, x3, x4, x5⟩ := HCX.out _ HY.out
                  obtain ⟨y0, y1, y2, y3, y4, y5⟩ := hcy _ HY.out
                  obtain ⟨q1, e1⟩ : ∃ q, (x.drive == y.drive) = q := ⟨_, rfl⟩
                  obtain ⟨q2, e2⟩ : ∃ q, (x.ext == y.ext) = q := ⟨_, rfl⟩
                  obtain ⟨q3, e3⟩ : ∃ q, (x.vol == y.vol) = q := ⟨_, rfl⟩
                  obtain ⟨q4, e4⟩ : ∃ q, (x.frag == y.frag) = q := ⟨_, rfl⟩
                  obtain ⟨q5, e5⟩ : ∃ q, (x.mov == y.mov) = q := ⟨_, rfl⟩
                  rw [e1, e2] at t1
                  rw [e3, e4, e5] at t2
                  obtain ⟨s1, s2⟩ := six_of t1 t2
                  clear t1 t2 hcy hy
                  go_wp2_with fail
                  rcases s1 with rfl | ⟨rfl, rfl⟩ <;> rcases s2 with rfl | ⟨rfl, rfl⟩ | ⟨rfl, rfl, rfl⟩
                  all_goals (as_aux_lemma => (
                                               go_quiet (fail)
                                               go_wp2_with fail
                                               go_roundw
                                               case rel => exact ⟨b + 1, by go_num, by omega, Lib.hid (HY.out.trans ((below_drawn _ _).mono HY.out.size))⟩
                                               case measure => simp [intOf]; omega))
                · as_aux_lemma =>
                    obtain rfl : b = a := by omega
                    have HU := Lib.hid ((HD.out.rel.uu x.drive x.ext x).2 ⟨List.mem_of_getElem? HXL.out, rfl, rfl⟩)
                    have A3 := Lib.hid (show (T'.u (x.drive, x.ext)).getD noL = x by rw [HU.out]; rfl)
                    have D3 := Lib.hid (show (T'.u (x.drive, x.ext)).isSome = true by rw [HU.out]; rfl)
                    go_wp2_with fail
                    refine wp_region_pick (Below w5.heap.size w5) (Below w5.heap.size w5) [0, 1, 2, 3, 4, 5, 6, 7, 8, 9, 10, 11, 12, 13, 14] 3 rfl (by kernel_rfl) (by kernel_rfl) (by kernel_rfl) (fun _ _ h hb => h.trans (hb.mono h.size)) (fun _ h => h) HY.out ?_
                    repeat (apply pRow_plain
                            · exact rfl
                            · exact rfl
                            · intro wg hg
                              ((obtain ⟨x0, x1, x2, x3, x4, x5⟩ := HCX.out _ hg))
                              go_simp
                              first
                                | exact rfl
                                | exact Below.refl _ _
                                | exact ⟨Below.refl _ _, rfl⟩
                                | (((with_reducible refine (at_as (HD.out.call hg).tb _ _ A3.out D3.out).mono ?_); rintro e w' ⟨rfl, hb⟩; exact ⟨rfl, hb⟩))
                            intro K hK
                            go_simp
                            refine hK _ ?_
                            clear hK K)
                    refine pRow_nil ?_
                    refine lAny_step [15] (by kernel_rfl) (by simp) fun j hj => ?_
                    obtain rfl : j = 15 := by simpa using hj
                    refine lOp_box rfl rfl (T' := fun bx => Bk w5 bx (lc noL)) (fun _ _ _ h hb => h.grow hb) (fun _ _ h => h.1) ?_ ?_
                    · intro wg hg
                      have HK := Bk.new hg (lc noL) 46
                      go_simp
                      try first
                        | exact HK
                        | exact ⟨_, rfl, HK⟩
                    intro bx
                    go_simp
                    refine lAny_step [16] (by kernel_rfl) (by simp) fun j hj => ?_
                    obtain rfl : j = 16 := by simpa using hj
                    refine lOp_call undef rfl rfl (T' := Bk w5 bx (lc x)) (fun _ _ h hb => h.grow hb) (fun _ h => h.1) ?_ ?_
                    · intro wg hg
                      obtain ⟨c0, c1, c2, c3, c4, c5, f0, f1, f2, f3, f4, f5, cl⟩ := hg.2.2.lay6
                      have HK := hg.put6 (.int .i64 x.vol) (.int .i64 x.frag) (.int .i64 x.drive) (.int .i64 x.ext) (.int .i64 x.gen) (.bool x.mov)
                      go_simp
                      try first
                        | exact HK
                        | exact ⟨rfl, HK⟩
                    go_simp
                    refine lAny_rest [17] (by kernel_rfl) (by kernel_rfl) (by kernel_rfl) ?_
                    repeat (apply pRow_plain
                            · exact rfl
                            · exact rfl
                            · intro wg hg
                              ((skip))
                              go_simp
                              first
                                | exact rfl
                                | exact Below.refl _ _
                                | exact ⟨Below.refl _ _, rfl⟩
                                | ((fail))
                            intro K hK
                            go_simp
                            refine hK _ ?_
                            clear hK K)
                    refine pRow_nil ?_
                    rintro wz ⟨hz1, hz2, hz3⟩
                    have HZ := Lib.hid hz1
                    obtain ⟨x0, x1, x2, x3, x4, x5⟩ := HCX.out _ hz1
                    obtain ⟨c0, c1, c2, c3, c4, c5, -⟩ := hz3.lay6
                    have hne := neq_ls x
                    clear hz1 hz2 hz3
                    go_wp2_with fail
                    go_quiet (fail)
                    go_wp2_with fail
                    go_roundw
                    case rel => exact ⟨b + 1, by go_num, by omega, Lib.hid (HZ.out.trans ((below_drawn _ _).mono HZ.out.size))⟩
                    case measure => simp [intOf]; omega
            · obtain rfl : a = m := by omega
              go_wp2_with fail
              go_roundw
              case rel => exact ⟨k + 1, T', R', by go_num, by omega, Lib.hid (HD.out.call HX.out)⟩
              case measure => simp [intOf]; omega
    · obtain rfl : k = n := by omega
      go_wp2_with (first
        | (go_at_call 10; (with_reducible refine (awake_any _).mono ?_); rintro e w5 ⟨rfl, hb⟩; have HB := Lib.hid (HV.out.call hb).below; clear hb))
      go_ret
      exact ⟨rfl, HB.out⟩
end Go.Proofs.Ytnhpjmjinchamaa
