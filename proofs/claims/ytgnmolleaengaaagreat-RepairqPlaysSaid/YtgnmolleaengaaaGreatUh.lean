/- The reference queue's Put. -/
import Derived.Test.YtgnmolleaengaaaGreatUf
set_option linter.unusedVariables false
set_option linter.unusedSimpArgs false
set_option linter.unnecessarySimpa false
namespace Go.Proofs.YtgnmolleaengaaaGreat
open Go Go.RowKit

/-- the two boxes of Put -/
structure Pz (rb bj bx : Nat) (cj cx : Array Value) (w wx : World) : Prop where
  hbj : Holds wx bj cj
  hbx : Holds wx bx cx
  tj : TyB wx bj 29
  tx : TyB wx bx 107
  hx : w.heap.size ≤ bx
  tr : TyB wx rb 71
  on : Only [rb] w wx
namespace Pz
variable {rb bj bx : Nat} {cj cx : Array Value} {w wx wy : World}
theorem turn (h : Pz rb bj bx cj cx w wx) (ho : Only [rb] wx wy) (ht : TyB wy rb 71) : Pz rb bj bx cj cx w wy := by
  have h1 : bj ∉ [rb] := fun q => by rw [List.mem_singleton.1 q] at h; exact absurd (h.tj.uniq h.tr) (by decide)
  have h2 : bx ∉ [rb] := fun q => by rw [List.mem_singleton.1 q] at h; exact absurd (h.tx.uniq h.tr) (by decide)
  exact ⟨h.hbj.only ho h1, h.hbx.only ho h2, h.tj.same (ho.block bj h.tj.lt h1), h.tx.same (ho.block bx h.tx.lt h2), h.hx, ht, h.on.trans ho⟩
theorem keep (h : Pz rb bj bx cj cx w wx) (hb : Below wx.heap.size wx wy) : Pz rb bj bx cj cx w wy :=
  ⟨h.hbj.keep hb, h.hbx.keep hb, h.tj.keep hb, h.tx.keep hb, h.hx, h.tr.keep hb, h.on.trans (Only.of_below [rb] hb)⟩
theorem mark (h : Pz rb bj bx cj cx w wx) (i : Nat) (v : Value) : Pz rb bj bx cj (cx.setIfInBounds i v) w (wx.setCell ⟨bx, i, none⟩ v) := by
  have hne : bj ≠ bx := fun e => by have := h.tj; rw [e] at this; exact absurd (this.uniq h.tx) (by decide)
  have ho : Only [bx] wx (wx.setCell ⟨bx, i, none⟩ v) := (Only.refl [bx] wx).setCell (.inl (by simp)) i v
  exact ⟨h.hbj.only ho (by simpa using hne), h.hbx.set i v, h.tj.setCell _ _, h.tx.setCell _ _, h.hx, h.tr.setCell _ _, h.on.setCell (.inr h.hx) _ _⟩
end Pz

/-- the boxes and the row -/
structure Py (rb g cap : Nat) (slots : Int) (M : List En) (n bj bx : Nat) (cj cx : Array Value) (w wx : World) : Prop where
  at_ : RAt rb g cap slots M n wx
  pz : Pz rb bj bx cj cx w wx
  ne : g ≠ bx
theorem Py.keep {rb g cap n bj bx : Nat} {slots : Int} {M : List En} {cj cx : Array Value} {w wx wy : World} (h : Py rb g cap slots M n bj bx cj cx w wx) (hb : Below wx.heap.size wx wy) : Py rb g cap slots M n bj bx cj cx w wy := ⟨h.at_.keep hb, h.pz.keep hb, h.ne⟩
theorem Py.mark {rb g cap n bj bx : Nat} {slots : Int} {M : List En} {cj cx : Array Value} {w wx : World} (h : Py rb g cap slots M n bj bx cj cx w wx) (i : Nat) (v : Value) : Py rb g cap slots M n bj bx cj (cx.setIfInBounds i v) w (wx.setCell ⟨bx, i, none⟩ v) := by
  have ho : Only [bx] wx (wx.setCell ⟨bx, i, none⟩ v) := (Only.refl [bx] wx).setCell (.inl (by simp)) i v
  have hr : rb ≠ bx := fun e => by have := h.pz.tr; rw [e] at this; exact absurd (this.uniq h.pz.tx) (by decide)
  exact ⟨h.at_.other ho (by simpa using hr) (by simpa using h.ne) (fun s hs => by rw [List.mem_singleton.1 hs]; exact ⟨107, h.pz.tx, by decide⟩), h.pz.mark i v, h.ne⟩
/-- what the loads of the marks see -/
structure Px2 (rb g cap n i : Nat) (ru he : Bool) (wx : World) : Prop where
  c1 : wx.cell? ⟨rb, 1, none⟩ = some (.slice (some ⟨g, 0, none⟩) n cap)
  c7 : wx.cell? ⟨g, i * 9 + 7, none⟩ = some (.bool ru)
  c8 : wx.cell? ⟨g, i * 9 + 8, none⟩ = some (.bool he)
theorem Py.see {rb g cap n bj bx : Nat} {slots : Int} {M : List En} {cj cx : Array Value} {w wx : World} (h : Py rb g cap slots M n bj bx cj cx w wx) {i : Nat} {x : En} (hx : M[i]? = some x) : Px2 rb g cap n i x.run x.held wx :=
  ⟨h.at_.c1, h.at_.cell (j := 7) hx rfl, h.at_.cell (j := 8) hx rfl⟩

/-- what Put leaves of the reference queue -/
def RPutPost (rb : Nat) (slots : Int) (j : Jb) (ru he : Bool) (M2 : List En) (w : World) (e : Ending) (w' : World) : Prop :=
  e = .returned (.int .i64 0) ∧ ∃ y, y.j = j ∧ y.run = ru ∧ y.held = he ∧ Rq rb slots (insM M2 y) w' ∧ Only [rb] w w'

/-- the state of the loop -/
structure Pl2 (rb bj bx : Nat) (slots : Int) (M : List En) (cj cx : Array Value) (w wx : World) : Prop where
  q : Rq rb slots M wx
  pz : Pz rb bj bx cj cx w wx
theorem Pl2.keep {rb bj bx : Nat} {slots : Int} {M : List En} {cj cx : Array Value} {w wx wy : World} (h : Pl2 rb bj bx slots M cj cx w wx) (hb : Below wx.heap.size wx wy) : Pl2 rb bj bx slots M cj cx w wy := ⟨h.q.keep hb, h.pz.keep hb⟩





set_option maxRecDepth 20000 in
set_option maxHeartbeats 4000000 in
theorem rput_new {rb : Nat} {slots : Int} {M2 : List En} {w : World} (h : Rq rb slots M2 w) (hl : M2.length ≤ 900) {j : Jb} {an ad : Option Addr} {anc adc : Nat} (oj : OkJ j) (h1 : Ru w (.slice an (limb j.n).length anc) (limb j.n)) (h2 : Ru w (.slice ad (limb j.d).length adc) (limb j.d)) (hi : idxF (j.vol, j.frag) M2 = -1) :
    Calls Tryz.prog 42 #[.pointer (some ⟨rb, 0, none⟩), jv j (.slice an (limb j.n).length anc) (.slice ad (limb j.d).length adc)] w (RPutPost rb slots j false false M2 w) := by
  (
    have hba := below_alloc w (.cells (jc j (.slice an (limb j.n).length anc) (.slice ad (limb j.d).length adc)) 29)
    have HB0 := Lib.hid hba
    have HJ0 := Lib.hid (Holds.new w (jc j (.slice an (limb j.n).length anc) (.slice ad (limb j.d).length adc)) 29)
    have HT0 := Lib.hid (TyB.new w (jc j (.slice an (limb j.n).length anc) (.slice ad (limb j.d).length adc)) 29)
    have HQ0 := Lib.hid (h.keep hba)
    have HR1 := Lib.hid h1
    have HR2 := Lib.hid h2
    have HTR : Hid (∀ s ∈ [rb], ∃ t, TyB w s t ∧ t ≠ 94) := Lib.hid fun s hs => by rw [List.mem_singleton.1 hs]; exact ⟨71, h.ty, by decide⟩
    have HOJ := Lib.hid oj
    have HL0 := Lib.hid hl
    have KV := Lib.hid (rvalid_as oj (h1.keep hba).rd (h2.keep hba).rd)
    have HI := Lib.hid hi
    clear h h1 h2 hba oj hi
    obtain ⟨a1, a2, a3, a4, n1, d1⟩ := j
    unfold RPutPost
    go_enter Tryz.func42, Tryz.ntmps42
    obtain ⟨s0, s1, s2, s3, s4, s5, s6, -⟩ := HJ0.out.lay7
    go_wp2_with (first
      | (go_at_call 14; (with_reducible refine KV.out.mono ?_); rintro e w2 ⟨rfl, hb⟩; have hx := below_alloc w2 (.cells (ec ⟨⟨a1, a2, a3, a4, n1, d1⟩, an, anc, ad, adc, false, false⟩) 107); have HB3 := Lib.hid ((HB0.out.trans (hb.mono HB0.out.size)).trans (hx.mono (HB0.out.trans (hb.mono HB0.out.size)).size)); have HJ3 := Lib.hid ((HJ0.out.keep hb).keep hx); have HT3 := Lib.hid ((HT0.out.keep hb).keep hx); have HQ3 := Lib.hid ((HQ0.out.keep hb).keep hx); have HE3 := Lib.hid (Holds.new w2 (ec ⟨⟨a1, a2, a3, a4, n1, d1⟩, an, anc, ad, adc, false, false⟩) 107); have HU3 := Lib.hid (TyB.new w2 (ec ⟨⟨a1, a2, a3, a4, n1, d1⟩, an, anc, ad, adc, false, false⟩) 107); have HS3 := Lib.hid (HB0.out.trans (hb.mono HB0.out.size)).size; have r0 := (hb.cell (p := ⟨w.heap.size, 0, none⟩) HJ0.out.lt).trans s0; have r1 := (hb.cell (p := ⟨w.heap.size, 1, none⟩) HJ0.out.lt).trans s1; have r2 := (hb.cell (p := ⟨w.heap.size, 2, none⟩) HJ0.out.lt).trans s2; have r3 := (hb.cell (p := ⟨w.heap.size, 3, none⟩) HJ0.out.lt).trans s3; have r4 := (hb.cell (p := ⟨w.heap.size, 4, none⟩) HJ0.out.lt).trans s4; have r5 := (hb.cell (p := ⟨w.heap.size, 5, none⟩) HJ0.out.lt).trans s5; have r6 := (hb.cell (p := ⟨w.heap.size, 6, none⟩) HJ0.out.lt).trans s6; clear s0 s1 s2 s3 s4 s5 s6; obtain ⟨s0, s1, s2, s3, s4, s5, s6, -⟩ := HJ3.out.lay7; clear hb hx)
      | (go_at_call 10; (with_reducible refine (rkey_as ⟨a1, a2, a3, a4, n1, d1⟩ _ _ _ _ _ _ _).mono ?_); rintro e w4 ⟨rfl, hb⟩; have HZ4 := Lib.hid (show Pz rb w.heap.size w2.heap.size (jc ⟨a1, a2, a3, a4, n1, d1⟩ (.slice an (limb n1).length anc) (.slice ad (limb d1).length adc)) (ec ⟨⟨a1, a2, a3, a4, n1, d1⟩, an, anc, ad, adc, false, false⟩) w w4 from ⟨HJ3.out.keep hb, HE3.out.keep hb, HT3.out.keep hb, HU3.out.keep hb, HS3.out, (HQ3.out.keep hb).ty, Only.of_below [rb] (HB3.out.trans (hb.mono HB3.out.size))⟩); have HQ4 := Lib.hid (HQ3.out.keep hb); have HB4 := Lib.hid (HB3.out.trans (hb.mono HB3.out.size)); have KF := Lib.hid (rfind_as HQ4.out (by have := HL0.out; omega) (a1, a2) HI.out); clear s0 s1 s2 s3 s4 s5 s6 r0 r1 r2 r3 r4 r5 r6; clear hb)
      | (go_at_call 67; (with_reducible refine KF.out.mono ?_); rintro e w5 ⟨rfl, hb⟩; have HZ5 := Lib.hid (HZ4.out.keep hb); have HQ5 := Lib.hid (HQ4.out.keep hb); have HB5 := Lib.hid (HB4.out.trans (hb.mono HB4.out.size)); clear hb))
    clear HB0 HJ0 HT0 HQ0 KV HB3 HB4 HJ3 HT3 HQ3 HE3 HU3 HZ4 HQ4 KF)
  generalize w2.heap.size = bx at HZ5 ⊢
  generalize w.heap.size = bj at HZ5 ⊢
  obtain ⟨n2, hn2⟩ : ∃ n, M2.length = n := ⟨_, rfl⟩
  have HN2 := Lib.hid hn2
  have HL7 := Lib.hid (show Pl2 rb bj bx slots M2 (jc ⟨a1, a2, a3, a4, n1, d1⟩ (.slice an (limb n1).length anc) (.slice ad (limb d1).length adc)) (ec ⟨⟨a1, a2, a3, a4, n1, d1⟩, an, anc, ad, adc, false, false⟩) w w5 from ⟨HQ5.out, HZ5.out⟩)
  rw [hn2] at hl
  clear hn2 HQ5 HZ5 HI HS3 HB5
  (
    go_loopw [7] (fun s wr => ∃ i : Nat, s = .int .i64 i ∧ i ≤ n2 ∧ Hid (Pl2 rb bj bx slots M2 (jc ⟨a1, a2, a3, a4, n1, d1⟩ (.slice an (limb n1).length anc) (.slice ad (limb d1).length adc)) (ec ⟨⟨a1, a2, a3, a4, n1, d1⟩, an, anc, ad, adc, false, false⟩) w wr) ∧ Hid (∀ (j : Nat) (x : En), j < i → M2[j]? = some x → beforeF x.j ⟨a1, a2, a3, a4, n1, d1⟩ = true)) (fun s _ => n2 - (intOf s).toNat)
    case atStart => exact ⟨0, rfl, Nat.zero_le _, HL7, Lib.hid fun j y hj => by omega⟩
    case round =>
      rename World => wr0
      clear HL7
      obtain ⟨kk, rfl, hi, HL1, HP⟩ := hrel
      by_cases hin : kk < n2
      · obtain ⟨x, hx⟩ : ∃ x, M2[kk]? = some x := ⟨M2[kk]'(by have := HN2.out; omega), by simp⟩
        obtain ⟨g, cap, hra⟩ := HL1.out.q.at HN2.out (by omega)
        have HX := Lib.hid hx
        have HRA := Lib.hid hra
        have hib : decide ((kk : Int) < (n2 : Int)) = true := by simp; omega
        have hib2 : (kk : Int) < (n2 : Int) := by omega
        have hcx := hra.caps
        have hcx1 := hcx.1
        have hcx2 := hcx.2
        have c1 := hra.c1
        have HOX := Lib.hid (HL1.out.q.ok x (List.mem_of_getElem? hx))
        have hfx := HL1.out.q.frac x (List.mem_of_getElem? hx)
        have HFN := Lib.hid hfx.1
        have HFD := Lib.hid hfx.2
        have HRW1 := Lib.hid (HR1.out.only HL1.out.pz.on HTR.out)
        have HRW2 := Lib.hid (HR2.out.only HL1.out.pz.on HTR.out)
        obtain ⟨q, hq⟩ : ∃ q, beforeF x.j ⟨a1, a2, a3, a4, n1, d1⟩ = q := ⟨_, rfl⟩
        have HQB := Lib.hid hq
        have KB : ∀ wz, Hid (Below wr0.heap.size wr0 wz → Calls Tryz.prog 9 #[jv x.j x.num x.den, jv ⟨a1, a2, a3, a4, n1, d1⟩ (.slice an (limb n1).length anc) (.slice ad (limb d1).length adc)] wz fun e w' => e = .returned (.bool q) ∧ Below wz.heap.size wz w') := fun wz => Lib.hid fun hb => rbefore_as HOX.out HOJ.out (HFN.out.keep hb).rd (HFD.out.keep hb).rd (HRW1.out.keep hb).rd (HRW2.out.keep hb).rd hq
        obtain ⟨⟨x1, x2, x3, x4, xn, xd⟩, xna, xnc, xda, xdc, xr, xh⟩ := x
        clear hx hra hcx hfx hq
        go_wp2_with fail
        refine wp_region_grow (Below wr0.heap.size wr0) (by kernel_rfl) (by kernel_rfl) (Below.refl _ _).drew ?_
        repeat first
                 | (apply gRow_plain
                    · exact rfl
                    · intro wg hg
                      ((have d1' := (HRA.out.keep hg).c1; obtain ⟨b0, b1, b2, b3, b4, b5, b6, b7, b8⟩ := (HRA.out.keep hg).entry HX.out; obtain ⟨u0, u1, u2, u3, u4, u5, u6, -⟩ := (HL1.out.pz.hbj.keep hg).lay7))
                      go_simp
                      first
                        | exact rfl
                        | exact hg
                        | exact ⟨hg, rfl⟩
                        | ((first
| ((with_reducible refine ((KB _).out hg).mono ?_); rintro e w' ⟨rfl, hb⟩; exact ⟨rfl, hg.trans (hb.mono hg.size)⟩)))
                    intro K hK
                    go_simp
                    refine hK _ ?_
                    clear hK K)
                 | (apply gRow_step
                    · go_simp; done
                    · intro wg hg
                      ((have d1' := (HRA.out.keep hg).c1; obtain ⟨b0, b1, b2, b3, b4, b5, b6, b7, b8⟩ := (HRA.out.keep hg).entry HX.out; obtain ⟨u0, u1, u2, u3, u4, u5, u6, -⟩ := (HL1.out.pz.hbj.keep hg).lay7))
                      go_simp
                      first
                        | exact rfl
                        | exact hg
                        | exact ⟨hg, rfl⟩
                        | ((first
| ((with_reducible refine ((KB _).out hg).mono ?_); rintro e w' ⟨rfl, hb⟩; exact ⟨rfl, hg.trans (hb.mono hg.size)⟩)))
                    intro K hK
                    go_simp
                    refine hK _ ?_
                    clear hK K)
                 | (apply gRow_not
                    · go_simp; done
                    intro K hK
                    go_simp
                    refine hK _ ?_
                    clear hK K)
        refine gRow_nil ?_
        intro wr hby
        have HL := Lib.hid (HL1.out.keep hby)
        have HRB := Lib.hid (HRA.out.keep hby)
        clear c1
        have c1 := HRB.out.c1
        clear hby HL1 HRA HFN HFD HRW1 HRW2 KB
        cases q with
        | true =>
          go_wp2_with fail
          go_roundw
          case rel =>
            refine ⟨kk + 1, by go_num, by omega, HL, Lib.hid fun j y hj hy => ?_⟩
            by_cases e : j < kk
            · exact HP.out j y e hy
            · obtain rfl : j = kk := by omega
              have := HX.out
              rw [hy] at this
              cases this
              exact HQB.out
          case measure => simp [intOf]; omega
        | false =>
          have HNB : Hid (∀ x, M2[kk]? = some x → beforeF x.j (En.j ⟨⟨a1, a2, a3, a4, n1, d1⟩, an, anc, ad, adc, false, false⟩) = false) := Lib.hid fun x hx => by
            have := HX.out
            rw [hx] at this
            cases this
            exact HQB.out
          go_wp2_with fail
          have hic : kk ≤ cap := by omega
          have hin2 : kk ≤ n2 := by omega
          have hin3 : (kk : Int) ≤ (n2 : Int) := by omega
          obtain ⟨sa, hif⟩ : ∃ sa, (if cap = kk then some (⟨g, 0, none⟩ : Addr) else some ⟨g, kk * 9, none⟩) = sa := ⟨_, rfl⟩
          have HS1 := Lib.hid (show Src wr (.slice (some ⟨g, 0, none⟩) kk cap) 9 kk (eE.flat (M2.take kk)) from (HRB.out.rd (by omega)).head (by have := HN2.out; omega) cap)
          have HS2 := Lib.hid (show Src wr (.slice sa (n2 - kk) (cap - kk)) 9 (n2 - kk) (eE.flat (M2.drop kk)) by
            have := (HRB.out.rd (by omega)).tail (i := kk) HN2.out (by have := HN2.out; omega) (cap - kk)
            rw [Nat.zero_add] at this
            rw [← hif, if_neg (by omega)]
            exact this)
          (
            have HL' : Hid ((insM M2 ⟨⟨a1, a2, a3, a4, n1, d1⟩, an, anc, ad, adc, false, false⟩).length = kk + 1 + (n2 - kk) ∧ eE.flat (insM M2 ⟨⟨a1, a2, a3, a4, n1, d1⟩, an, anc, ad, adc, false, false⟩) = ([] ++ eE.flat (M2.take kk) ++ (ec ⟨⟨a1, a2, a3, a4, n1, d1⟩, an, anc, ad, adc, false, false⟩).toList) ++ eE.flat (M2.drop kk)) := by
              have := HN2.out
              rw [insM_at HP.out HNB.out (by omega)]
              refine ⟨by rw [List.length_append, List.length_cons, List.length_take, List.length_drop]; omega, ?_⟩
              rw [flat_app, flat_cons]
              simp [eE]
            refine wp_region_pick_tail (Below wr.heap.size wr) (AS wr 107 9 (.slice none 0 0) 0 [] []) [0, 1, 2, 3, 4, 5, 6, 8, 11, 12, 13, 14, 15, 16] 4 18 (by kernel_rfl) ?_ AS.stable AS.base (AS.start wr 107 9) ?_
            · kernel_rfl
            repeat (apply pRow_plain
                    · exact rfl
                    · exact rfl
                    · intro wg hg
                      ((have d1' := (hg.cell (p := ⟨rb, 1, none⟩) HL.out.q.ty.lt).trans c1; obtain ⟨u0, u1, u2, u3, u4, u5, u6, u7, u8, -⟩ := (HL.out.pz.hbx.keep hg).lay9))
                      go_simp
                      first
                        | exact rfl
                        | exact Below.refl _ _
                        | exact ⟨Below.refl _ _, rfl⟩
                        | ((fail))
                    intro K hK
                    go_simp
                    refine hK _ ?_
                    clear hK K)
            refine pRow_nil ?_
            refine lAnyL_step [7, 9] ?_ (by simp) (by decide) ?_
            · kernel_rfl
            intro j hj
            have hj' : j = 7 ∨ j = 9 := by simpa using hj
            rcases hj' with rfl | rfl
            · refine lOp_app elt69 _ _ rfl rfl rfl rfl rfl (fun wg hg => HS1.out.below hg.below) (by omega) ?_
              intro u1
              go_simp
              refine lAnyL_step [9] ?_ (by simp) (by decide) ?_
              · kernel_rfl
              intro j hj
              obtain rfl : j = 9 := by simpa using hj
              refine lOp_build (ec ⟨⟨a1, a2, a3, a4, n1, d1⟩, an, anc, ad, adc, false, false⟩) rfl rfl (fun w => by go_simp) ?_
              intro bq
              go_simp
              (
                refine lAnyL_step [10] ?_ (by simp) (by decide) ?_
                · kernel_rfl
                intro j hj
                obtain rfl : j = 10 := by simpa using hj
                refine lOp_app elt69 _ _ rfl rfl rfl rfl rfl (fun wg hg => hg.src (c := ec ⟨⟨a1, a2, a3, a4, n1, d1⟩, an, anc, ad, adc, false, false⟩) (by simp) rfl (by intro u hu; simp at hu; rcases hu with rfl | rfl | rfl | rfl | rfl | rfl | rfl | rfl | rfl <;> rfl)) (by omega) ?_
                intro u2
                go_simp
                refine lAnyL_step [17] ?_ (by simp) (by decide) ?_
                · kernel_rfl
                intro j hj
                obtain rfl : j = 17 := by simpa using hj
                refine lOp_app elt69 _ _ rfl rfl rfl rfl rfl (fun wg hg => HS2.out.below hg.below) (by omega) ?_
                intro u3
                go_simp
                refine ⟨?_, ?_⟩
                · kernel_rfl
                intro wg hg
                obtain ⟨ua, ucap, rfl⟩ := owns_val hg.row
                have HG := Lib.hid (show Ow eE 107 wr wg (.slice ua (kk + 1 + (n2 - kk)) ucap) (insM M2 ⟨⟨a1, a2, a3, a4, n1, d1⟩, an, anc, ad, adc, false, false⟩) from own_of hg (by rw [HL'.out.1]; try rfl) (by rw [HL'.out.2]; try simp))
                have hlt := HL.out.q.ty.lt
                have d1' := (hg.below.cell (p := ⟨rb, 1, none⟩) hlt).trans c1
                have e1' := (hg.below.frozen (p := ⟨rb, 1, none⟩) hlt).trans (HL.out.q.thaw 1)
                clear hg
                go_wp2_with fail
                go_ret
                have hmem : ∀ z ∈ insM M2 ⟨⟨a1, a2, a3, a4, n1, d1⟩, an, anc, ad, adc, false, false⟩, z = ⟨⟨a1, a2, a3, a4, n1, d1⟩, an, anc, ad, adc, false, false⟩ ∨ z ∈ M2 := fun z hz => by
                  have := (insM_perm M2 ⟨⟨a1, a2, a3, a4, n1, d1⟩, an, anc, ad, adc, false, false⟩).mem_iff.1 hz
                  simpa using this
                have hpp := HL.out.q.put HG.out (fun z hz => by
                  rcases hmem z hz with rfl | hz
                  · exact ⟨HR1.out.only HL.out.pz.on HTR.out, HR2.out.only HL.out.pz.on HTR.out⟩
                  · exact HL.out.q.frac z hz) (fun z hz => by
                  rcases hmem z hz with rfl | hz
                  · exact HOJ.out
                  · exact HL.out.q.ok z hz)
                exact ⟨rfl, ⟨⟨a1, a2, a3, a4, n1, d1⟩, an, anc, ad, adc, false, false⟩, rfl, rfl, rfl, hpp.1, HL.out.pz.on.trans hpp.2⟩)
            · refine lOp_build (ec ⟨⟨a1, a2, a3, a4, n1, d1⟩, an, anc, ad, adc, false, false⟩) rfl rfl (fun w => by go_simp) ?_
              intro bq
              go_simp
              refine lAnyL_step [7] ?_ (by simp) (by decide) ?_
              · kernel_rfl
              intro j hj
              obtain rfl : j = 7 := by simpa using hj
              refine lOp_app elt69 _ _ rfl rfl rfl rfl rfl (fun wg hg => HS1.out.below hg.below) (by omega) ?_
              intro u1
              go_simp
              (
                refine lAnyL_step [10] ?_ (by simp) (by decide) ?_
                · kernel_rfl
                intro j hj
                obtain rfl : j = 10 := by simpa using hj
                refine lOp_app elt69 _ _ rfl rfl rfl rfl rfl (fun wg hg => hg.src (c := ec ⟨⟨a1, a2, a3, a4, n1, d1⟩, an, anc, ad, adc, false, false⟩) (by simp) rfl (by intro u hu; simp at hu; rcases hu with rfl | rfl | rfl | rfl | rfl | rfl | rfl | rfl | rfl <;> rfl)) (by omega) ?_
                intro u2
                go_simp
                refine lAnyL_step [17] ?_ (by simp) (by decide) ?_
                · kernel_rfl
                intro j hj
                obtain rfl : j = 17 := by simpa using hj
                refine lOp_app elt69 _ _ rfl rfl rfl rfl rfl (fun wg hg => HS2.out.below hg.below) (by omega) ?_
                intro u3
                go_simp
                refine ⟨?_, ?_⟩
                · kernel_rfl
                intro wg hg
                obtain ⟨ua, ucap, rfl⟩ := owns_val hg.row
                have HG := Lib.hid (show Ow eE 107 wr wg (.slice ua (kk + 1 + (n2 - kk)) ucap) (insM M2 ⟨⟨a1, a2, a3, a4, n1, d1⟩, an, anc, ad, adc, false, false⟩) from own_of hg (by rw [HL'.out.1]; try rfl) (by rw [HL'.out.2]; try simp))
                have hlt := HL.out.q.ty.lt
                have d1' := (hg.below.cell (p := ⟨rb, 1, none⟩) hlt).trans c1
                have e1' := (hg.below.frozen (p := ⟨rb, 1, none⟩) hlt).trans (HL.out.q.thaw 1)
                clear hg
                go_wp2_with fail
                go_ret
                have hmem : ∀ z ∈ insM M2 ⟨⟨a1, a2, a3, a4, n1, d1⟩, an, anc, ad, adc, false, false⟩, z = ⟨⟨a1, a2, a3, a4, n1, d1⟩, an, anc, ad, adc, false, false⟩ ∨ z ∈ M2 := fun z hz => by
                  have := (insM_perm M2 ⟨⟨a1, a2, a3, a4, n1, d1⟩, an, anc, ad, adc, false, false⟩).mem_iff.1 hz
                  simpa using this
                have hpp := HL.out.q.put HG.out (fun z hz => by
                  rcases hmem z hz with rfl | hz
                  · exact ⟨HR1.out.only HL.out.pz.on HTR.out, HR2.out.only HL.out.pz.on HTR.out⟩
                  · exact HL.out.q.frac z hz) (fun z hz => by
                  rcases hmem z hz with rfl | hz
                  · exact HOJ.out
                  · exact HL.out.q.ok z hz)
                exact ⟨rfl, ⟨⟨a1, a2, a3, a4, n1, d1⟩, an, anc, ad, adc, false, false⟩, rfl, rfl, rfl, hpp.1, HL.out.pz.on.trans hpp.2⟩))
      · obtain rfl : kk = n2 := by omega
        have hkf : decide ((kk : Int) < (kk : Int)) = false := by simp
        have HNB : Hid (∀ x, M2[kk]? = some x → beforeF x.j (En.j ⟨⟨a1, a2, a3, a4, n1, d1⟩, an, anc, ad, adc, false, false⟩) = false) := Lib.hid fun x hx => by
          have h1 := (List.getElem?_eq_some_iff.1 hx).1
          have h2 := HN2.out
          omega
        have HDR := Lib.hid (show M2.drop kk = [] from List.drop_of_length_le (by have := HN2.out; omega))
        obtain ⟨v, c1, hrow⟩ := HL1.out.q.row
        rw [HN2.out] at hrow
        rcases hrow.2 with ⟨rfl, h0⟩ | ⟨g, cap, cur, rfl, -, -, hcap1, hcap2, -⟩
        · cases h0
          clear hrow
          go_wp2_with fail
          refine wp_region_grow (Below wr0.heap.size wr0) (by kernel_rfl) (by kernel_rfl) (Below.refl _ _).drew ?_
          repeat first
                   | (apply gRow_plain
                      · exact rfl
                      · intro wg hg
                        ((have d1' := (hg.cell (p := ⟨rb, 1, none⟩) HL1.out.q.ty.lt).trans c1))
                        go_simp
                        first
                          | exact rfl
                          | exact hg
                          | exact ⟨hg, rfl⟩
                          | ((fail))
                      intro K hK
                      go_simp
                      refine hK _ ?_
                      clear hK K)
                   | (apply gRow_step
                      · go_simp; done
                      · intro wg hg
                        ((have d1' := (hg.cell (p := ⟨rb, 1, none⟩) HL1.out.q.ty.lt).trans c1))
                        go_simp
                        first
                          | exact rfl
                          | exact hg
                          | exact ⟨hg, rfl⟩
                          | ((fail))
                      intro K hK
                      go_simp
                      refine hK _ ?_
                      clear hK K)
                   | (apply gRow_not
                      · go_simp; done
                      intro K hK
                      go_simp
                      refine hK _ ?_
                      clear hK K)
          refine gRow_nil ?_
          intro wr hby
          have HL := Lib.hid (HL1.out.keep hby)
          have c1' := (hby.cell (p := ⟨rb, 1, none⟩) HL1.out.q.ty.lt).trans c1
          clear c1
          have c1 := c1'
          clear hby HL1 c1'
          go_wp2_with fail
          have HS1 := Lib.hid (show Src wr (.slice none 0 0) 9 0 (eE.flat (M2.take 0)) from src_none _ _)
          have HS2 := Lib.hid (show Src wr (.slice none 0 0) 9 0 (eE.flat (M2.drop 0)) by rw [HDR.out]; exact src_none _ _)
          (
            have HL' : Hid ((insM M2 ⟨⟨a1, a2, a3, a4, n1, d1⟩, an, anc, ad, adc, false, false⟩).length = 0 + 1 + 0 ∧ eE.flat (insM M2 ⟨⟨a1, a2, a3, a4, n1, d1⟩, an, anc, ad, adc, false, false⟩) = ([] ++ eE.flat (M2.take 0) ++ (ec ⟨⟨a1, a2, a3, a4, n1, d1⟩, an, anc, ad, adc, false, false⟩).toList) ++ eE.flat (M2.drop 0)) := by
              have := HN2.out
              rw [insM_at HP.out HNB.out (by omega)]
              refine ⟨by rw [List.length_append, List.length_cons, List.length_take, List.length_drop]; omega, ?_⟩
              rw [flat_app, flat_cons]
              simp [eE]
            refine wp_region_pick_tail (Below wr.heap.size wr) (AS wr 107 9 (.slice none 0 0) 0 [] []) [0, 1, 2, 3, 4, 5, 6, 8, 11, 12, 13, 14, 15, 16] 4 18 (by kernel_rfl) ?_ AS.stable AS.base (AS.start wr 107 9) ?_
            · kernel_rfl
            repeat (apply pRow_plain
                    · exact rfl
                    · exact rfl
                    · intro wg hg
                      ((have d1' := (hg.cell (p := ⟨rb, 1, none⟩) HL.out.q.ty.lt).trans c1; obtain ⟨u0, u1, u2, u3, u4, u5, u6, u7, u8, -⟩ := (HL.out.pz.hbx.keep hg).lay9))
                      go_simp
                      first
                        | exact rfl
                        | exact Below.refl _ _
                        | exact ⟨Below.refl _ _, rfl⟩
                        | ((fail))
                    intro K hK
                    go_simp
                    refine hK _ ?_
                    clear hK K)
            refine pRow_nil ?_
            refine lAnyL_step [7, 9] ?_ (by simp) (by decide) ?_
            · kernel_rfl
            intro j hj
            have hj' : j = 7 ∨ j = 9 := by simpa using hj
            rcases hj' with rfl | rfl
            · refine lOp_app elt69 _ _ rfl rfl rfl rfl rfl (fun wg hg => HS1.out.below hg.below) (by omega) ?_
              intro u1
              go_simp
              refine lAnyL_step [9] ?_ (by simp) (by decide) ?_
              · kernel_rfl
              intro j hj
              obtain rfl : j = 9 := by simpa using hj
              refine lOp_build (ec ⟨⟨a1, a2, a3, a4, n1, d1⟩, an, anc, ad, adc, false, false⟩) rfl rfl (fun w => by go_simp) ?_
              intro bq
              go_simp
              (
                refine lAnyL_step [10] ?_ (by simp) (by decide) ?_
                · kernel_rfl
                intro j hj
                obtain rfl : j = 10 := by simpa using hj
                refine lOp_app elt69 _ _ rfl rfl rfl rfl rfl (fun wg hg => hg.src (c := ec ⟨⟨a1, a2, a3, a4, n1, d1⟩, an, anc, ad, adc, false, false⟩) (by simp) rfl (by intro u hu; simp at hu; rcases hu with rfl | rfl | rfl | rfl | rfl | rfl | rfl | rfl | rfl <;> rfl)) (by omega) ?_
                intro u2
                go_simp
                refine lAnyL_step [17] ?_ (by simp) (by decide) ?_
                · kernel_rfl
                intro j hj
                obtain rfl : j = 17 := by simpa using hj
                refine lOp_app elt69 _ _ rfl rfl rfl rfl rfl (fun wg hg => HS2.out.below hg.below) (by omega) ?_
                intro u3
                go_simp
                refine ⟨?_, ?_⟩
                · kernel_rfl
                intro wg hg
                obtain ⟨ua, ucap, rfl⟩ := owns_val hg.row
                have HG := Lib.hid (show Ow eE 107 wr wg (.slice ua (0 + 1 + 0) ucap) (insM M2 ⟨⟨a1, a2, a3, a4, n1, d1⟩, an, anc, ad, adc, false, false⟩) from own_of hg (by rw [HL'.out.1]; try rfl) (by rw [HL'.out.2]; try simp))
                have hlt := HL.out.q.ty.lt
                have d1' := (hg.below.cell (p := ⟨rb, 1, none⟩) hlt).trans c1
                have e1' := (hg.below.frozen (p := ⟨rb, 1, none⟩) hlt).trans (HL.out.q.thaw 1)
                clear hg
                go_wp2_with fail
                go_ret
                have hmem : ∀ z ∈ insM M2 ⟨⟨a1, a2, a3, a4, n1, d1⟩, an, anc, ad, adc, false, false⟩, z = ⟨⟨a1, a2, a3, a4, n1, d1⟩, an, anc, ad, adc, false, false⟩ ∨ z ∈ M2 := fun z hz => by
                  have := (insM_perm M2 ⟨⟨a1, a2, a3, a4, n1, d1⟩, an, anc, ad, adc, false, false⟩).mem_iff.1 hz
                  simpa using this
                have hpp := HL.out.q.put HG.out (fun z hz => by
                  rcases hmem z hz with rfl | hz
                  · exact ⟨HR1.out.only HL.out.pz.on HTR.out, HR2.out.only HL.out.pz.on HTR.out⟩
                  · exact HL.out.q.frac z hz) (fun z hz => by
                  rcases hmem z hz with rfl | hz
                  · exact HOJ.out
                  · exact HL.out.q.ok z hz)
                exact ⟨rfl, ⟨⟨a1, a2, a3, a4, n1, d1⟩, an, anc, ad, adc, false, false⟩, rfl, rfl, rfl, hpp.1, HL.out.pz.on.trans hpp.2⟩)
            · refine lOp_build (ec ⟨⟨a1, a2, a3, a4, n1, d1⟩, an, anc, ad, adc, false, false⟩) rfl rfl (fun w => by go_simp) ?_
              intro bq
              go_simp
              refine lAnyL_step [7] ?_ (by simp) (by decide) ?_
              · kernel_rfl
              intro j hj
              obtain rfl : j = 7 := by simpa using hj
              refine lOp_app elt69 _ _ rfl rfl rfl rfl rfl (fun wg hg => HS1.out.below hg.below) (by omega) ?_
              intro u1
              go_simp
              (
                refine lAnyL_step [10] ?_ (by simp) (by decide) ?_
                · kernel_rfl
                intro j hj
                obtain rfl : j = 10 := by simpa using hj
                refine lOp_app elt69 _ _ rfl rfl rfl rfl rfl (fun wg hg => hg.src (c := ec ⟨⟨a1, a2, a3, a4, n1, d1⟩, an, anc, ad, adc, false, false⟩) (by simp) rfl (by intro u hu; simp at hu; rcases hu with rfl | rfl | rfl | rfl | rfl | rfl | rfl | rfl | rfl <;> rfl)) (by omega) ?_
                intro u2
                go_simp
                refine lAnyL_step [17] ?_ (by simp) (by decide) ?_
                · kernel_rfl
                intro j hj
                obtain rfl : j = 17 := by simpa using hj
                refine lOp_app elt69 _ _ rfl rfl rfl rfl rfl (fun wg hg => HS2.out.below hg.below) (by omega) ?_
                intro u3
                go_simp
                refine ⟨?_, ?_⟩
                · kernel_rfl
                intro wg hg
                obtain ⟨ua, ucap, rfl⟩ := owns_val hg.row
                have HG := Lib.hid (show Ow eE 107 wr wg (.slice ua (0 + 1 + 0) ucap) (insM M2 ⟨⟨a1, a2, a3, a4, n1, d1⟩, an, anc, ad, adc, false, false⟩) from own_of hg (by rw [HL'.out.1]; try rfl) (by rw [HL'.out.2]; try simp))
                have hlt := HL.out.q.ty.lt
                have d1' := (hg.below.cell (p := ⟨rb, 1, none⟩) hlt).trans c1
                have e1' := (hg.below.frozen (p := ⟨rb, 1, none⟩) hlt).trans (HL.out.q.thaw 1)
                clear hg
                go_wp2_with fail
                go_ret
                have hmem : ∀ z ∈ insM M2 ⟨⟨a1, a2, a3, a4, n1, d1⟩, an, anc, ad, adc, false, false⟩, z = ⟨⟨a1, a2, a3, a4, n1, d1⟩, an, anc, ad, adc, false, false⟩ ∨ z ∈ M2 := fun z hz => by
                  have := (insM_perm M2 ⟨⟨a1, a2, a3, a4, n1, d1⟩, an, anc, ad, adc, false, false⟩).mem_iff.1 hz
                  simpa using this
                have hpp := HL.out.q.put HG.out (fun z hz => by
                  rcases hmem z hz with rfl | hz
                  · exact ⟨HR1.out.only HL.out.pz.on HTR.out, HR2.out.only HL.out.pz.on HTR.out⟩
                  · exact HL.out.q.frac z hz) (fun z hz => by
                  rcases hmem z hz with rfl | hz
                  · exact HOJ.out
                  · exact HL.out.q.ok z hz)
                exact ⟨rfl, ⟨⟨a1, a2, a3, a4, n1, d1⟩, an, anc, ad, adc, false, false⟩, rfl, rfl, rfl, hpp.1, HL.out.pz.on.trans hpp.2⟩))
        · unfold maxLen at hcap2
          have HRW := Lib.hid hrow
          clear hrow
          have hq2 : cap ≤ 9223372036854775807 := by omega
          go_wp2_with fail
          refine wp_region_grow (Below wr0.heap.size wr0) (by kernel_rfl) (by kernel_rfl) (Below.refl _ _).drew ?_
          repeat first
                   | (apply gRow_plain
                      · exact rfl
                      · intro wg hg
                        ((have d1' := (hg.cell (p := ⟨rb, 1, none⟩) HL1.out.q.ty.lt).trans c1))
                        go_simp
                        first
                          | exact rfl
                          | exact hg
                          | exact ⟨hg, rfl⟩
                          | ((fail))
                      intro K hK
                      go_simp
                      refine hK _ ?_
                      clear hK K)
                   | (apply gRow_step
                      · go_simp; done
                      · intro wg hg
                        ((have d1' := (hg.cell (p := ⟨rb, 1, none⟩) HL1.out.q.ty.lt).trans c1))
                        go_simp
                        first
                          | exact rfl
                          | exact hg
                          | exact ⟨hg, rfl⟩
                          | ((fail))
                      intro K hK
                      go_simp
                      refine hK _ ?_
                      clear hK K)
                   | (apply gRow_not
                      · go_simp; done
                      intro K hK
                      go_simp
                      refine hK _ ?_
                      clear hK K)
          refine gRow_nil ?_
          intro wr hby
          have HL := Lib.hid (HL1.out.keep hby)
          have HRX := Lib.hid (owns_below HRW.out hby)
          have c1' := (hby.cell (p := ⟨rb, 1, none⟩) HL1.out.q.ty.lt).trans c1
          clear c1
          have c1 := c1'
          clear hby HL1 HRW c1'
          go_wp2_with fail
          have hic : kk ≤ cap := by omega
          have hin2 : kk ≤ kk := by omega
          have hin3 : (kk : Int) ≤ (kk : Int) := by omega
          obtain ⟨sa, hif⟩ : ∃ sa, (if cap = kk then some (⟨g, 0, none⟩ : Addr) else some ⟨g, kk * 9, none⟩) = sa := ⟨_, rfl⟩
          have HS1 := Lib.hid (show Src wr (.slice (some ⟨g, 0, none⟩) kk cap) 9 kk (eE.flat (M2.take kk)) by
            have := src_take HRX.out (flat_one _) hin2 cap
            rwa [show (eE.flat M2).take (kk * 9) = eE.flat (M2.take kk) from (flat_take (E := eE) M2 kk).symm] at this)
          have HS2 := Lib.hid (show Src wr (.slice sa 0 (cap - kk)) 9 0 (eE.flat (M2.drop kk)) by
            rw [HDR.out]
            exact src_none _ _)
          (
            have HL' : Hid ((insM M2 ⟨⟨a1, a2, a3, a4, n1, d1⟩, an, anc, ad, adc, false, false⟩).length = kk + 1 + 0 ∧ eE.flat (insM M2 ⟨⟨a1, a2, a3, a4, n1, d1⟩, an, anc, ad, adc, false, false⟩) = ([] ++ eE.flat (M2.take kk) ++ (ec ⟨⟨a1, a2, a3, a4, n1, d1⟩, an, anc, ad, adc, false, false⟩).toList) ++ eE.flat (M2.drop kk)) := by
              have := HN2.out
              rw [insM_at HP.out HNB.out (by omega)]
              refine ⟨by rw [List.length_append, List.length_cons, List.length_take, List.length_drop]; omega, ?_⟩
              rw [flat_app, flat_cons]
              simp [eE]
            refine wp_region_pick_tail (Below wr.heap.size wr) (AS wr 107 9 (.slice none 0 0) 0 [] []) [0, 1, 2, 3, 4, 5, 6, 8, 11, 12, 13, 14, 15, 16] 4 18 (by kernel_rfl) ?_ AS.stable AS.base (AS.start wr 107 9) ?_
            · kernel_rfl
            repeat (apply pRow_plain
                    · exact rfl
                    · exact rfl
                    · intro wg hg
                      ((have d1' := (hg.cell (p := ⟨rb, 1, none⟩) HL.out.q.ty.lt).trans c1; obtain ⟨u0, u1, u2, u3, u4, u5, u6, u7, u8, -⟩ := (HL.out.pz.hbx.keep hg).lay9))
                      go_simp
                      first
                        | exact rfl
                        | exact Below.refl _ _
                        | exact ⟨Below.refl _ _, rfl⟩
                        | ((fail))
                    intro K hK
                    go_simp
                    refine hK _ ?_
                    clear hK K)
            refine pRow_nil ?_
            refine lAnyL_step [7, 9] ?_ (by simp) (by decide) ?_
            · kernel_rfl
            intro j hj
            have hj' : j = 7 ∨ j = 9 := by simpa using hj
            rcases hj' with rfl | rfl
            · refine lOp_app elt69 _ _ rfl rfl rfl rfl rfl (fun wg hg => HS1.out.below hg.below) (by omega) ?_
              intro u1
              go_simp
              refine lAnyL_step [9] ?_ (by simp) (by decide) ?_
              · kernel_rfl
              intro j hj
              obtain rfl : j = 9 := by simpa using hj
              refine lOp_build (ec ⟨⟨a1, a2, a3, a4, n1, d1⟩, an, anc, ad, adc, false, false⟩) rfl rfl (fun w => by go_simp) ?_
              intro bq
              go_simp
              (
                refine lAnyL_step [10] ?_ (by simp) (by decide) ?_
                · kernel_rfl
                intro j hj
                obtain rfl : j = 10 := by simpa using hj
                refine lOp_app elt69 _ _ rfl rfl rfl rfl rfl (fun wg hg => hg.src (c := ec ⟨⟨a1, a2, a3, a4, n1, d1⟩, an, anc, ad, adc, false, false⟩) (by simp) rfl (by intro u hu; simp at hu; rcases hu with rfl | rfl | rfl | rfl | rfl | rfl | rfl | rfl | rfl <;> rfl)) (by omega) ?_
                intro u2
                go_simp
                refine lAnyL_step [17] ?_ (by simp) (by decide) ?_
                · kernel_rfl
                intro j hj
                obtain rfl : j = 17 := by simpa using hj
                refine lOp_app elt69 _ _ rfl rfl rfl rfl rfl (fun wg hg => HS2.out.below hg.below) (by omega) ?_
                intro u3
                go_simp
                refine ⟨?_, ?_⟩
                · kernel_rfl
                intro wg hg
                obtain ⟨ua, ucap, rfl⟩ := owns_val hg.row
                have HG := Lib.hid (show Ow eE 107 wr wg (.slice ua (kk + 1 + 0) ucap) (insM M2 ⟨⟨a1, a2, a3, a4, n1, d1⟩, an, anc, ad, adc, false, false⟩) from own_of hg (by rw [HL'.out.1]; try rfl) (by rw [HL'.out.2]; try simp))
                have hlt := HL.out.q.ty.lt
                have d1' := (hg.below.cell (p := ⟨rb, 1, none⟩) hlt).trans c1
                have e1' := (hg.below.frozen (p := ⟨rb, 1, none⟩) hlt).trans (HL.out.q.thaw 1)
                clear hg
                go_wp2_with fail
                go_ret
                have hmem : ∀ z ∈ insM M2 ⟨⟨a1, a2, a3, a4, n1, d1⟩, an, anc, ad, adc, false, false⟩, z = ⟨⟨a1, a2, a3, a4, n1, d1⟩, an, anc, ad, adc, false, false⟩ ∨ z ∈ M2 := fun z hz => by
                  have := (insM_perm M2 ⟨⟨a1, a2, a3, a4, n1, d1⟩, an, anc, ad, adc, false, false⟩).mem_iff.1 hz
                  simpa using this
                have hpp := HL.out.q.put HG.out (fun z hz => by
                  rcases hmem z hz with rfl | hz
                  · exact ⟨HR1.out.only HL.out.pz.on HTR.out, HR2.out.only HL.out.pz.on HTR.out⟩
                  · exact HL.out.q.frac z hz) (fun z hz => by
                  rcases hmem z hz with rfl | hz
                  · exact HOJ.out
                  · exact HL.out.q.ok z hz)
                exact ⟨rfl, ⟨⟨a1, a2, a3, a4, n1, d1⟩, an, anc, ad, adc, false, false⟩, rfl, rfl, rfl, hpp.1, HL.out.pz.on.trans hpp.2⟩)
            · refine lOp_build (ec ⟨⟨a1, a2, a3, a4, n1, d1⟩, an, anc, ad, adc, false, false⟩) rfl rfl (fun w => by go_simp) ?_
              intro bq
              go_simp
              refine lAnyL_step [7] ?_ (by simp) (by decide) ?_
              · kernel_rfl
              intro j hj
              obtain rfl : j = 7 := by simpa using hj
              refine lOp_app elt69 _ _ rfl rfl rfl rfl rfl (fun wg hg => HS1.out.below hg.below) (by omega) ?_
              intro u1
              go_simp
              (
                refine lAnyL_step [10] ?_ (by simp) (by decide) ?_
                · kernel_rfl
                intro j hj
                obtain rfl : j = 10 := by simpa using hj
                refine lOp_app elt69 _ _ rfl rfl rfl rfl rfl (fun wg hg => hg.src (c := ec ⟨⟨a1, a2, a3, a4, n1, d1⟩, an, anc, ad, adc, false, false⟩) (by simp) rfl (by intro u hu; simp at hu; rcases hu with rfl | rfl | rfl | rfl | rfl | rfl | rfl | rfl | rfl <;> rfl)) (by omega) ?_
                intro u2
                go_simp
                refine lAnyL_step [17] ?_ (by simp) (by decide) ?_
                · kernel_rfl
                intro j hj
                obtain rfl : j = 17 := by simpa using hj
                refine lOp_app elt69 _ _ rfl rfl rfl rfl rfl (fun wg hg => HS2.out.below hg.below) (by omega) ?_
                intro u3
                go_simp
                refine ⟨?_, ?_⟩
                · kernel_rfl
                intro wg hg
                obtain ⟨ua, ucap, rfl⟩ := owns_val hg.row
                have HG := Lib.hid (show Ow eE 107 wr wg (.slice ua (kk + 1 + 0) ucap) (insM M2 ⟨⟨a1, a2, a3, a4, n1, d1⟩, an, anc, ad, adc, false, false⟩) from own_of hg (by rw [HL'.out.1]; try rfl) (by rw [HL'.out.2]; try simp))
                have hlt := HL.out.q.ty.lt
                have d1' := (hg.below.cell (p := ⟨rb, 1, none⟩) hlt).trans c1
                have e1' := (hg.below.frozen (p := ⟨rb, 1, none⟩) hlt).trans (HL.out.q.thaw 1)
                clear hg
                go_wp2_with fail
                go_ret
                have hmem : ∀ z ∈ insM M2 ⟨⟨a1, a2, a3, a4, n1, d1⟩, an, anc, ad, adc, false, false⟩, z = ⟨⟨a1, a2, a3, a4, n1, d1⟩, an, anc, ad, adc, false, false⟩ ∨ z ∈ M2 := fun z hz => by
                  have := (insM_perm M2 ⟨⟨a1, a2, a3, a4, n1, d1⟩, an, anc, ad, adc, false, false⟩).mem_iff.1 hz
                  simpa using this
                have hpp := HL.out.q.put HG.out (fun z hz => by
                  rcases hmem z hz with rfl | hz
                  · exact ⟨HR1.out.only HL.out.pz.on HTR.out, HR2.out.only HL.out.pz.on HTR.out⟩
                  · exact HL.out.q.frac z hz) (fun z hz => by
                  rcases hmem z hz with rfl | hz
                  · exact HOJ.out
                  · exact HL.out.q.ok z hz)
                exact ⟨rfl, ⟨⟨a1, a2, a3, a4, n1, d1⟩, an, anc, ad, adc, false, false⟩, rfl, rfl, rfl, hpp.1, HL.out.pz.on.trans hpp.2⟩)))
end Go.Proofs.YtgnmolleaengaaaGreat

/- The reference queue's Put of a job that is there. -/
namespace Go.Proofs.YtgnmolleaengaaaGreat
open Go Go.RowKit


set_option maxRecDepth 20000 in
set_option maxHeartbeats 8000000 in
theorem rput_old {rb : Nat} {slots : Int} {M : List En} {w : World} (h : Rq rb slots M w) (hl : M.length ≤ 900) {j : Jb} {an ad : Option Addr} {anc adc : Nat} (oj : OkJ j) (h1 : Ru w (.slice an (limb j.n).length anc) (limb j.n)) (h2 : Ru w (.slice ad (limb j.d).length adc) (limb j.d)) {i : Nat} {x : En} (hi : idxF (j.vol, j.frag) M = (i : Int)) (hx : M[i]? = some x) {M2 : List En} (hM2 : M.eraseIdx i = M2) :
    Calls Tryz.prog 42 #[.pointer (some ⟨rb, 0, none⟩), jv j (.slice an (limb j.n).length anc) (.slice ad (limb j.d).length adc)] w (RPutPost rb slots j x.run x.held M2 w) := by
  have HM2 := Lib.hid hM2
  clear hM2
  have hil : i < M.length := (List.getElem?_eq_some_iff.1 hx).1
  obtain ⟨n, hn⟩ : ∃ n, M.length = n := ⟨_, rfl⟩
  have HN := Lib.hid hn
  obtain ⟨g, cap, hqa⟩ := h.at hn (by omega)
  have HGA := Lib.hid hqa
  have hgl := (hqa.own.lt g rfl).2
  have HSE : Hid (∀ (wx : World) (cx : Array Value) {bj bx : Nat} {cj : Array Value}, Py rb g cap slots M n bj bx cj cx w wx → Px2 rb g cap n i x.run x.held wx) := Lib.hid fun wx cx _ _ _ h => h.see hx
  obtain ⟨ru, hru⟩ : ∃ b, x.run = b := ⟨_, rfl⟩
  obtain ⟨he, hhe⟩ : ∃ b, x.held = b := ⟨_, rfl⟩
  rw [hru, hhe] at HSE ⊢
  have hneg : decide ((0 : Int) ≤ (i : Int)) = true := by simp
  clear hqa hn hx hru hhe
  (
    have hba := below_alloc w (.cells (jc j (.slice an (limb j.n).length anc) (.slice ad (limb j.d).length adc)) 29)
    have HB0 := Lib.hid hba
    have HJ0 := Lib.hid (Holds.new w (jc j (.slice an (limb j.n).length anc) (.slice ad (limb j.d).length adc)) 29)
    have HT0 := Lib.hid (TyB.new w (jc j (.slice an (limb j.n).length anc) (.slice ad (limb j.d).length adc)) 29)
    have HQ0 := Lib.hid (h.keep hba)
    have HR1 := Lib.hid h1
    have HR2 := Lib.hid h2
    have HTR : Hid (∀ s ∈ [rb], ∃ t, TyB w s t ∧ t ≠ 94) := Lib.hid fun s hs => by rw [List.mem_singleton.1 hs]; exact ⟨71, h.ty, by decide⟩
    have HOJ := Lib.hid oj
    have HL0 := Lib.hid hl
    have KV := Lib.hid (rvalid_as oj (h1.keep hba).rd (h2.keep hba).rd)
    have HI := Lib.hid hi
    clear h h1 h2 hba oj hi
    obtain ⟨a1, a2, a3, a4, n1, d1⟩ := j
    unfold RPutPost
    go_enter Tryz.func42, Tryz.ntmps42
    obtain ⟨s0, s1, s2, s3, s4, s5, s6, -⟩ := HJ0.out.lay7
    go_wp2_with (first
      | (go_at_call 14; (with_reducible refine KV.out.mono ?_); rintro e w2 ⟨rfl, hb⟩; have hx := below_alloc w2 (.cells (ec ⟨⟨a1, a2, a3, a4, n1, d1⟩, an, anc, ad, adc, false, false⟩) 107); have HB3 := Lib.hid ((HB0.out.trans (hb.mono HB0.out.size)).trans (hx.mono (HB0.out.trans (hb.mono HB0.out.size)).size)); have HJ3 := Lib.hid ((HJ0.out.keep hb).keep hx); have HT3 := Lib.hid ((HT0.out.keep hb).keep hx); have HQ3 := Lib.hid ((HQ0.out.keep hb).keep hx); have HE3 := Lib.hid (Holds.new w2 (ec ⟨⟨a1, a2, a3, a4, n1, d1⟩, an, anc, ad, adc, false, false⟩) 107); have HU3 := Lib.hid (TyB.new w2 (ec ⟨⟨a1, a2, a3, a4, n1, d1⟩, an, anc, ad, adc, false, false⟩) 107); have HS3 := Lib.hid (HB0.out.trans (hb.mono HB0.out.size)).size; have r0 := (hb.cell (p := ⟨w.heap.size, 0, none⟩) HJ0.out.lt).trans s0; have r1 := (hb.cell (p := ⟨w.heap.size, 1, none⟩) HJ0.out.lt).trans s1; have r2 := (hb.cell (p := ⟨w.heap.size, 2, none⟩) HJ0.out.lt).trans s2; have r3 := (hb.cell (p := ⟨w.heap.size, 3, none⟩) HJ0.out.lt).trans s3; have r4 := (hb.cell (p := ⟨w.heap.size, 4, none⟩) HJ0.out.lt).trans s4; have r5 := (hb.cell (p := ⟨w.heap.size, 5, none⟩) HJ0.out.lt).trans s5; have r6 := (hb.cell (p := ⟨w.heap.size, 6, none⟩) HJ0.out.lt).trans s6; clear s0 s1 s2 s3 s4 s5 s6; obtain ⟨s0, s1, s2, s3, s4, s5, s6, -⟩ := HJ3.out.lay7; clear hb hx)
      | (go_at_call 10; (with_reducible refine (rkey_as ⟨a1, a2, a3, a4, n1, d1⟩ _ _ _ _ _ _ _).mono ?_); rintro e w4 ⟨rfl, hb⟩; have HZ4 := Lib.hid (show Pz rb w.heap.size w2.heap.size (jc ⟨a1, a2, a3, a4, n1, d1⟩ (.slice an (limb n1).length anc) (.slice ad (limb d1).length adc)) (ec ⟨⟨a1, a2, a3, a4, n1, d1⟩, an, anc, ad, adc, false, false⟩) w w4 from ⟨HJ3.out.keep hb, HE3.out.keep hb, HT3.out.keep hb, HU3.out.keep hb, HS3.out, (HQ3.out.keep hb).ty, Only.of_below [rb] (HB3.out.trans (hb.mono HB3.out.size))⟩); have HQ4 := Lib.hid (HQ3.out.keep hb); have HB4 := Lib.hid (HB3.out.trans (hb.mono HB3.out.size)); have KF := Lib.hid (rfind_as HQ4.out (by have := HL0.out; omega) (a1, a2) HI.out); clear s0 s1 s2 s3 s4 s5 s6 r0 r1 r2 r3 r4 r5 r6; clear hb)
      | (go_at_call 67; (with_reducible refine KF.out.mono ?_); rintro e w5 ⟨rfl, hb⟩; have HZ5 := Lib.hid (HZ4.out.keep hb); have HQ5 := Lib.hid (HQ4.out.keep hb); have HB5 := Lib.hid (HB4.out.trans (hb.mono HB4.out.size)); clear hb))
    clear HB0 HJ0 HT0 HQ0 KV HB3 HB4 HJ3 HT3 HQ3 HE3 HU3 HZ4 HQ4 KF)
  have hbx : g ≠ w2.heap.size := by have := HS3.out; omega
  have HPY := Lib.hid (show Py rb g cap slots M n w.heap.size w2.heap.size (jc ⟨a1, a2, a3, a4, n1, d1⟩ (.slice an (limb n1).length anc) (.slice ad (limb d1).length adc)) (ec ⟨⟨a1, a2, a3, a4, n1, d1⟩, an, anc, ad, adc, false, false⟩) w w5 from ⟨HGA.out.keep HB5.out, HZ5.out, hbx⟩)
  clear hbx HZ5 HQ5 HI HS3 HB5 HGA hgl
  generalize w2.heap.size = bx at HPY ⊢
  generalize w.heap.size = bj at HPY ⊢
  have hcq := HPY.out.at_.caps
  have hcq1 := hcq.1
  have hcq2 := hcq.2
  clear hcq
  have hl3 := HL0.out
  rw [HN.out] at hl3 hil
  have hib : (i : Int) < (n : Int) := by omega
  refine wp_region_pick (Px2 rb g cap n i ru he) (Py rb g cap slots M n bj bx (jc ⟨a1, a2, a3, a4, n1, d1⟩ (.slice an (limb n1).length anc) (.slice ad (limb d1).length adc)) (ec ⟨⟨a1, a2, a3, a4, n1, d1⟩, an, anc, ad, adc, false, false⟩) w) [0, 1, 2, 3, 4, 5, 6, 7, 8, 9, 10, 11, 12, 13, 14, 15, 16] 3 rfl (by kernel_rfl) (by kernel_rfl) (by kernel_rfl) (fun _ _ h hb => h.keep hb) (fun wx h => HSE.out wx _ h) HPY.out ?_
  repeat (apply pRow_plain
          · exact rfl
          · exact rfl
          · intro wg hg
            ((have d1 := hg.c1; have d7 := hg.c7; have d8 := hg.c8))
            go_simp
            first
              | exact rfl
              | exact Below.refl _ _
              | exact ⟨Below.refl _ _, rfl⟩
              | ((fail))
          intro K hK
          go_simp
          refine hK _ ?_
          clear hK K)
  refine pRow_nil ?_
  refine lAny_step [17] (by kernel_rfl) (by simp) fun k hk => ?_
  obtain rfl : k = 17 := by simpa using hk
  refine lOp_call undef rfl rfl (T' := (Py rb g cap slots M n bj bx (jc ⟨a1, a2, a3, a4, n1, d1⟩ (.slice an (limb n1).length anc) (.slice ad (limb d1).length adc)) (ec ⟨⟨a1, a2, a3, a4, n1, d1⟩, an, anc, ad, adc, ru, false⟩) w)) (fun _ _ h hb => h.keep hb) (fun wx h => HSE.out wx _ h) ?_ ?_
  · intro wg hg
    obtain ⟨k0, k1, k2, k3, k4, k5, k6, k7, k8, -⟩ := hg.pz.hbx.lay9
    have tf := hg.pz.hbx.thaw 7
    have HK := hg.mark 7 (.bool ru)
    go_simp
    try first
      | exact HK
      | exact ⟨rfl, HK⟩
  go_simp
  refine lAny_pick' 1 [18] rfl (by kernel_rfl) (by kernel_rfl) ?_
  repeat (apply pRow_plain
          · exact rfl
          · exact rfl
          · intro wg hg
            ((skip))
            go_simp
            first
              | exact rfl
              | exact Below.refl _ _
              | exact ⟨Below.refl _ _, rfl⟩
              | ((fail))
          intro K hK
          go_simp
          refine hK _ ?_
          clear hK K)
  refine pRow_nil ?_
  refine lAny_step [19] (by kernel_rfl) (by simp) fun k hk => ?_
  obtain rfl : k = 19 := by simpa using hk
  refine lOp_call undef rfl rfl (T' := (Py rb g cap slots M n bj bx (jc ⟨a1, a2, a3, a4, n1, d1⟩ (.slice an (limb n1).length anc) (.slice ad (limb d1).length adc)) (ec ⟨⟨a1, a2, a3, a4, n1, d1⟩, an, anc, ad, adc, ru, he⟩) w)) (fun _ _ h hb => h.keep hb) (fun wx h => HSE.out wx _ h) ?_ ?_
  · intro wg hg
    obtain ⟨k0, k1, k2, k3, k4, k5, k6, k7, k8, -⟩ := hg.pz.hbx.lay9
    have tf := hg.pz.hbx.thaw 8
    have HK := hg.mark 8 (.bool he)
    go_simp
    try first
      | exact HK
      | exact ⟨rfl, HK⟩
  go_simp
  (
    refine lAny_end (by kernel_rfl) ?_
    intro w1 hq
    have HQ := Lib.hid hq.at_
    have HZ1 := Lib.hid hq.pz
    clear hq
    go_wp2_with fail
    (
      have HD := Lib.hid (show Rd eE w1 (.slice (some ⟨g, 0, none⟩) n cap) M from (by
        obtain ⟨a, c, q1, q2⟩ := HQ.out.q.list (by have := HN.out; omega)
        rw [HQ.out.c1, HN.out] at q1
        cases q1
        rw [HN.out] at q2
        exact q2))
      have hnc := HQ.out.caps.1
      have hcm := HQ.out.caps.2
      have hlt := HQ.out.q.ty.lt
      have hth := HQ.out.q.thaw 1
      have c1 := HQ.out.c1
      have HS1 := Lib.hid (show Src w1 (.slice (some ⟨g, 0, none⟩) i cap) 9 i (eE.flat (M.take i)) from HD.out.head (by have := HN.out; omega) cap)
      have HS2 := Lib.hid (show Src w1 (.slice (some ⟨g, (i + 1) * 9, none⟩) (n - (i + 1)) (cap - (i + 1))) 9 (n - (i + 1)) (eE.flat (M.drop (i + 1))) from (by
        have := HD.out.tail (i := i + 1) HN.out (by have := HN.out; omega) (cap - (i + 1))
        rw [Nat.zero_add] at this
        exact this))
      have hic : i ≤ cap := by omega
      have hin : i + 1 ≤ n := by omega
      have hin2 : (i : Int) + 1 ≤ (n : Int) := by omega
      have hw : IntKind.i64.wrap ((i : Int) + 1) = (i : Int) + 1 := IntWalk.i64_in _ (by omega)
      have hw0 : (0 : Int) ≤ (i : Int) + 1 := by omega
      have hwn : ((i : Int) + 1).toNat = i + 1 := by omega
      have HL' : Hid ((M.eraseIdx i).length = i + (n - (i + 1)) ∧ eE.flat (M.eraseIdx i) = ([] ++ eE.flat (M.take i)) ++ eE.flat (M.drop (i + 1))) := by
        have := HN.out
        rw [List.eraseIdx_eq_take_drop_succ]
        refine ⟨?_, by rw [flat_app]; simp⟩
        rw [List.length_append, List.length_take, List.length_drop]
        omega
      have HE : Hid (i + 1 = n → M.drop (i + 1) = []) := fun e => List.drop_of_length_le (by have := HN.out; omega)
      obtain ⟨sa, hif⟩ : ∃ sa, (if cap = i + 1 then some (⟨g, 0, none⟩ : Addr) else some ⟨g, (i + 1) * 9, none⟩) = sa := ⟨_, rfl⟩
      have HS3 := Lib.hid (show Src w1 (.slice sa (n - (i + 1)) (cap - (i + 1))) 9 (n - (i + 1)) (eE.flat (M.drop (i + 1))) by
        by_cases hc : i + 1 < n
        · rw [← hif, if_neg (by omega)]
          exact HS2.out
        · rw [HE.out (by omega), show n - (i + 1) = 0 by omega]
          exact src_none _ _)
      have hm2 : i + (n - (i + 1)) ≤ 10000 := by omega
      have hm1 : 0 + i ≤ 10000 := by omega
      clear HD
      refine wp_region_pick_tail (Below w1.heap.size w1) (AS w1 107 9 (.slice none 0 0) 0 [] []) [0, 1, 2, 3, 4, 5, 6, 8, 9, 10, 11, 12, 13, 14] 2 16 (by kernel_rfl) ?_ AS.stable AS.base (AS.start w1 107 9) ?_
      · kernel_rfl
      repeat (apply pRow_plain
              · exact rfl
              · exact rfl
              · intro wg hg
                ((have d1 := (hg.cell (p := ⟨rb, 1, none⟩) hlt).trans c1))
                go_simp
                first
                  | exact rfl
                  | exact Below.refl _ _
                  | exact ⟨Below.refl _ _, rfl⟩
                  | ((fail))
              intro K hK
              go_simp
              refine hK _ ?_
              clear hK K)
      refine pRow_nil ?_
      refine lAnyL_step [7] ?_ (by simp) (by decide) ?_
      · kernel_rfl
      intro j hj
      obtain rfl : j = 7 := by simpa using hj
      refine lOp_app elt69 _ _ rfl rfl rfl rfl rfl (fun wg hg => HS1.out.below hg.below) hm1 ?_
      intro u1
      go_simp
      refine lAnyL_step [15] ?_ (by simp) (by decide) ?_
      · kernel_rfl
      intro j hj
      obtain rfl : j = 15 := by simpa using hj
      refine lOp_app elt69 _ _ rfl rfl rfl rfl rfl (fun wg hg => HS3.out.below hg.below) hm2 ?_
      intro u2
      go_simp
      refine ⟨?_, ?_⟩
      · kernel_rfl
      intro wg hg
      obtain ⟨ua, ucap, rfl⟩ := owns_val hg.row
      have HG := Lib.hid (show Ow eE 107 w1 wg (.slice ua (i + (n - (i + 1))) ucap) (M.eraseIdx i) from own_of hg HL'.out.1.symm HL'.out.2.symm)
      have HP := Lib.hid (HQ.out.q.put HG.out (fun y hy => HQ.out.q.frac y (List.mem_of_mem_eraseIdx hy)) (fun y hy => HQ.out.q.ok y (List.mem_of_mem_eraseIdx hy)))
      have d1 := (hg.below.cell (p := ⟨rb, 1, none⟩) hlt).trans c1
      have e1 := (hg.below.frozen (p := ⟨rb, 1, none⟩) hlt).trans hth
      clear hg)
    go_wp2_with fail
    have HZ7 := Lib.hid (HZ1.out.turn HP.out.2 HP.out.1.ty)
    have HL2 := Lib.hid (show (M.eraseIdx i).length ≤ 900 by rw [List.length_eraseIdx]; have := HN.out; split <;> omega)
    have HQ7 := Lib.hid HP.out.1
    clear HP HG d1 e1 HL' HE HS1 HS2 HS3 hif hm1 hm2 hic hin hin2 hw hw0 hwn hlt hth c1 hnc hcm
    generalize wg.setCell ⟨rb, 1, none⟩ (.slice ua (i + (n - (i + 1))) ucap) = w7 at HZ7 HQ7 ⊢
    rw [HM2.out] at HQ7 HL2
    obtain ⟨n2, hn2⟩ : ∃ n, M2.length = n := ⟨_, rfl⟩
    have HN2 := Lib.hid hn2
    have HL7 := Lib.hid (show Pl2 rb bj bx slots M2 (jc ⟨a1, a2, a3, a4, n1, d1⟩ (.slice an (limb n1).length anc) (.slice ad (limb d1).length adc)) (ec ⟨⟨a1, a2, a3, a4, n1, d1⟩, an, anc, ad, adc, ru, he⟩) w w7 from ⟨HQ7.out, HZ7.out⟩)
    have hl2 := HL2.out
    rw [hn2] at hl2
    clear hn2 HQ7 HZ7 HQ HZ1 HL2 hl
    (
      go_loopw [7] (fun s wr => ∃ i : Nat, s = .int .i64 i ∧ i ≤ n2 ∧ Hid (Pl2 rb bj bx slots M2 (jc ⟨a1, a2, a3, a4, n1, d1⟩ (.slice an (limb n1).length anc) (.slice ad (limb d1).length adc)) (ec ⟨⟨a1, a2, a3, a4, n1, d1⟩, an, anc, ad, adc, ru, he⟩) w wr) ∧ Hid (∀ (j : Nat) (x : En), j < i → M2[j]? = some x → beforeF x.j ⟨a1, a2, a3, a4, n1, d1⟩ = true)) (fun s _ => n2 - (intOf s).toNat)
      case atStart => exact ⟨0, rfl, Nat.zero_le _, HL7, Lib.hid fun j y hj => by omega⟩
      case round =>
        rename World => wr0
        clear HL7
        obtain ⟨kk, rfl, hi, HL1, HP⟩ := hrel
        by_cases hin : kk < n2
        · obtain ⟨x, hx⟩ : ∃ x, M2[kk]? = some x := ⟨M2[kk]'(by have := HN2.out; omega), by simp⟩
          obtain ⟨g, cap, hra⟩ := HL1.out.q.at HN2.out (by omega)
          have HX := Lib.hid hx
          have HRA := Lib.hid hra
          have hib : decide ((kk : Int) < (n2 : Int)) = true := by simp; omega
          have hib2 : (kk : Int) < (n2 : Int) := by omega
          have hcx := hra.caps
          have hcx1 := hcx.1
          have hcx2 := hcx.2
          have c1 := hra.c1
          have HOX := Lib.hid (HL1.out.q.ok x (List.mem_of_getElem? hx))
          have hfx := HL1.out.q.frac x (List.mem_of_getElem? hx)
          have HFN := Lib.hid hfx.1
          have HFD := Lib.hid hfx.2
          have HRW1 := Lib.hid (HR1.out.only HL1.out.pz.on HTR.out)
          have HRW2 := Lib.hid (HR2.out.only HL1.out.pz.on HTR.out)
          obtain ⟨q, hq⟩ : ∃ q, beforeF x.j ⟨a1, a2, a3, a4, n1, d1⟩ = q := ⟨_, rfl⟩
          have HQB := Lib.hid hq
          have KB : ∀ wz, Hid (Below wr0.heap.size wr0 wz → Calls Tryz.prog 9 #[jv x.j x.num x.den, jv ⟨a1, a2, a3, a4, n1, d1⟩ (.slice an (limb n1).length anc) (.slice ad (limb d1).length adc)] wz fun e w' => e = .returned (.bool q) ∧ Below wz.heap.size wz w') := fun wz => Lib.hid fun hb => rbefore_as HOX.out HOJ.out (HFN.out.keep hb).rd (HFD.out.keep hb).rd (HRW1.out.keep hb).rd (HRW2.out.keep hb).rd hq
          obtain ⟨⟨x1, x2, x3, x4, xn, xd⟩, xna, xnc, xda, xdc, xr, xh⟩ := x
          clear hx hra hcx hfx hq
          go_wp2_with fail
          refine wp_region_grow (Below wr0.heap.size wr0) (by kernel_rfl) (by kernel_rfl) (Below.refl _ _).drew ?_
          repeat first
                   | (apply gRow_plain
                      · exact rfl
                      · intro wg hg
                        ((have d1' := (HRA.out.keep hg).c1; obtain ⟨b0, b1, b2, b3, b4, b5, b6, b7, b8⟩ := (HRA.out.keep hg).entry HX.out; obtain ⟨u0, u1, u2, u3, u4, u5, u6, -⟩ := (HL1.out.pz.hbj.keep hg).lay7))
                        go_simp
                        first
                          | exact rfl
                          | exact hg
                          | exact ⟨hg, rfl⟩
                          | ((first
| ((with_reducible refine ((KB _).out hg).mono ?_); rintro e w' ⟨rfl, hb⟩; exact ⟨rfl, hg.trans (hb.mono hg.size)⟩)))
                      intro K hK
                      go_simp
                      refine hK _ ?_
                      clear hK K)
                   | (apply gRow_step
                      · go_simp; done
                      · intro wg hg
                        ((have d1' := (HRA.out.keep hg).c1; obtain ⟨b0, b1, b2, b3, b4, b5, b6, b7, b8⟩ := (HRA.out.keep hg).entry HX.out; obtain ⟨u0, u1, u2, u3, u4, u5, u6, -⟩ := (HL1.out.pz.hbj.keep hg).lay7))
                        go_simp
                        first
                          | exact rfl
                          | exact hg
                          | exact ⟨hg, rfl⟩
                          | ((first
| ((with_reducible refine ((KB _).out hg).mono ?_); rintro e w' ⟨rfl, hb⟩; exact ⟨rfl, hg.trans (hb.mono hg.size)⟩)))
                      intro K hK
                      go_simp
                      refine hK _ ?_
                      clear hK K)
                   | (apply gRow_not
                      · go_simp; done
                      intro K hK
                      go_simp
                      refine hK _ ?_
                      clear hK K)
          refine gRow_nil ?_
          intro wr hby
          have HL := Lib.hid (HL1.out.keep hby)
          have HRB := Lib.hid (HRA.out.keep hby)
          clear c1
          have c1 := HRB.out.c1
          clear hby HL1 HRA HFN HFD HRW1 HRW2 KB
          cases q with
          | true =>
            go_wp2_with fail
            go_roundw
            case rel =>
              refine ⟨kk + 1, by go_num, by omega, HL, Lib.hid fun j y hj hy => ?_⟩
              by_cases e : j < kk
              · exact HP.out j y e hy
              · obtain rfl : j = kk := by omega
                have := HX.out
                rw [hy] at this
                cases this
                exact HQB.out
            case measure => simp [intOf]; omega
          | false =>
            have HNB : Hid (∀ x, M2[kk]? = some x → beforeF x.j (En.j ⟨⟨a1, a2, a3, a4, n1, d1⟩, an, anc, ad, adc, ru, he⟩) = false) := Lib.hid fun x hx => by
              have := HX.out
              rw [hx] at this
              cases this
              exact HQB.out
            go_wp2_with fail
            have hic : kk ≤ cap := by omega
            have hin2 : kk ≤ n2 := by omega
            have hin3 : (kk : Int) ≤ (n2 : Int) := by omega
            obtain ⟨sa, hif⟩ : ∃ sa, (if cap = kk then some (⟨g, 0, none⟩ : Addr) else some ⟨g, kk * 9, none⟩) = sa := ⟨_, rfl⟩
            have HS1 := Lib.hid (show Src wr (.slice (some ⟨g, 0, none⟩) kk cap) 9 kk (eE.flat (M2.take kk)) from (HRB.out.rd (by omega)).head (by have := HN2.out; omega) cap)
            have HS2 := Lib.hid (show Src wr (.slice sa (n2 - kk) (cap - kk)) 9 (n2 - kk) (eE.flat (M2.drop kk)) by
              have := (HRB.out.rd (by omega)).tail (i := kk) HN2.out (by have := HN2.out; omega) (cap - kk)
              rw [Nat.zero_add] at this
              rw [← hif, if_neg (by omega)]
              exact this)
            (
              have HL' : Hid ((insM M2 ⟨⟨a1, a2, a3, a4, n1, d1⟩, an, anc, ad, adc, ru, he⟩).length = kk + 1 + (n2 - kk) ∧ eE.flat (insM M2 ⟨⟨a1, a2, a3, a4, n1, d1⟩, an, anc, ad, adc, ru, he⟩) = ([] ++ eE.flat (M2.take kk) ++ (ec ⟨⟨a1, a2, a3, a4, n1, d1⟩, an, anc, ad, adc, ru, he⟩).toList) ++ eE.flat (M2.drop kk)) := by
                have := HN2.out
                rw [insM_at HP.out HNB.out (by omega)]
                refine ⟨by rw [List.length_append, List.length_cons, List.length_take, List.length_drop]; omega, ?_⟩
                rw [flat_app, flat_cons]
                simp [eE]
              refine wp_region_pick_tail (Below wr.heap.size wr) (AS wr 107 9 (.slice none 0 0) 0 [] []) [0, 1, 2, 3, 4, 5, 6, 8, 11, 12, 13, 14, 15, 16] 4 18 (by kernel_rfl) ?_ AS.stable AS.base (AS.start wr 107 9) ?_
              · kernel_rfl
              repeat (apply pRow_plain
                      · exact rfl
                      · exact rfl
                      · intro wg hg
                        ((have d1' := (hg.cell (p := ⟨rb, 1, none⟩) HL.out.q.ty.lt).trans c1; obtain ⟨u0, u1, u2, u3, u4, u5, u6, u7, u8, -⟩ := (HL.out.pz.hbx.keep hg).lay9))
                        go_simp
                        first
                          | exact rfl
                          | exact Below.refl _ _
                          | exact ⟨Below.refl _ _, rfl⟩
                          | ((fail))
                      intro K hK
                      go_simp
                      refine hK _ ?_
                      clear hK K)
              refine pRow_nil ?_
              refine lAnyL_step [7, 9] ?_ (by simp) (by decide) ?_
              · kernel_rfl
              intro j hj
              have hj' : j = 7 ∨ j = 9 := by simpa using hj
              rcases hj' with rfl | rfl
              · refine lOp_app elt69 _ _ rfl rfl rfl rfl rfl (fun wg hg => HS1.out.below hg.below) (by omega) ?_
                intro u1
                go_simp
                refine lAnyL_step [9] ?_ (by simp) (by decide) ?_
                · kernel_rfl
                intro j hj
                obtain rfl : j = 9 := by simpa using hj
                refine lOp_build (ec ⟨⟨a1, a2, a3, a4, n1, d1⟩, an, anc, ad, adc, ru, he⟩) rfl rfl (fun w => by go_simp) ?_
                intro bq
                go_simp
                (
                  refine lAnyL_step [10] ?_ (by simp) (by decide) ?_
                  · kernel_rfl
                  intro j hj
                  obtain rfl : j = 10 := by simpa using hj
                  refine lOp_app elt69 _ _ rfl rfl rfl rfl rfl (fun wg hg => hg.src (c := ec ⟨⟨a1, a2, a3, a4, n1, d1⟩, an, anc, ad, adc, ru, he⟩) (by simp) rfl (by intro u hu; simp at hu; rcases hu with rfl | rfl | rfl | rfl | rfl | rfl | rfl | rfl | rfl <;> rfl)) (by omega) ?_
                  intro u2
                  go_simp
                  refine lAnyL_step [17] ?_ (by simp) (by decide) ?_
                  · kernel_rfl
                  intro j hj
                  obtain rfl : j = 17 := by simpa using hj
                  refine lOp_app elt69 _ _ rfl rfl rfl rfl rfl (fun wg hg => HS2.out.below hg.below) (by omega) ?_
                  intro u3
                  go_simp
                  refine ⟨?_, ?_⟩
                  · kernel_rfl
                  intro wg hg
                  obtain ⟨ua, ucap, rfl⟩ := owns_val hg.row
                  have HG := Lib.hid (show Ow eE 107 wr wg (.slice ua (kk + 1 + (n2 - kk)) ucap) (insM M2 ⟨⟨a1, a2, a3, a4, n1, d1⟩, an, anc, ad, adc, ru, he⟩) from own_of hg (by rw [HL'.out.1]; try rfl) (by rw [HL'.out.2]; try simp))
                  have hlt := HL.out.q.ty.lt
                  have d1' := (hg.below.cell (p := ⟨rb, 1, none⟩) hlt).trans c1
                  have e1' := (hg.below.frozen (p := ⟨rb, 1, none⟩) hlt).trans (HL.out.q.thaw 1)
                  clear hg
                  go_wp2_with fail
                  go_ret
                  have hmem : ∀ z ∈ insM M2 ⟨⟨a1, a2, a3, a4, n1, d1⟩, an, anc, ad, adc, ru, he⟩, z = ⟨⟨a1, a2, a3, a4, n1, d1⟩, an, anc, ad, adc, ru, he⟩ ∨ z ∈ M2 := fun z hz => by
                    have := (insM_perm M2 ⟨⟨a1, a2, a3, a4, n1, d1⟩, an, anc, ad, adc, ru, he⟩).mem_iff.1 hz
                    simpa using this
                  have hpp := HL.out.q.put HG.out (fun z hz => by
                    rcases hmem z hz with rfl | hz
                    · exact ⟨HR1.out.only HL.out.pz.on HTR.out, HR2.out.only HL.out.pz.on HTR.out⟩
                    · exact HL.out.q.frac z hz) (fun z hz => by
                    rcases hmem z hz with rfl | hz
                    · exact HOJ.out
                    · exact HL.out.q.ok z hz)
                  exact ⟨rfl, ⟨⟨a1, a2, a3, a4, n1, d1⟩, an, anc, ad, adc, ru, he⟩, rfl, rfl, rfl, hpp.1, HL.out.pz.on.trans hpp.2⟩)
              · refine lOp_build (ec ⟨⟨a1, a2, a3, a4, n1, d1⟩, an, anc, ad, adc, ru, he⟩) rfl rfl (fun w => by go_simp) ?_
                intro bq
                go_simp
                refine lAnyL_step [7] ?_ (by simp) (by decide) ?_
                · kernel_rfl
                intro j hj
                obtain rfl : j = 7 := by simpa using hj
                refine lOp_app elt69 _ _ rfl rfl rfl rfl rfl (fun wg hg => HS1.out.below hg.below) (by omega) ?_
                intro u1
                go_simp
                (
                  refine lAnyL_step [10] ?_ (by simp) (by decide) ?_
                  · kernel_rfl
                  intro j hj
                  obtain rfl : j = 10 := by simpa using hj
                  refine lOp_app elt69 _ _ rfl rfl rfl rfl rfl (fun wg hg => hg.src (c := ec ⟨⟨a1, a2, a3, a4, n1, d1⟩, an, anc, ad, adc, ru, he⟩) (by simp) rfl (by intro u hu; simp at hu; rcases hu with rfl | rfl | rfl | rfl | rfl | rfl | rfl | rfl | rfl <;> rfl)) (by omega) ?_
                  intro u2
                  go_simp
                  refine lAnyL_step [17] ?_ (by simp) (by decide) ?_
                  · kernel_rfl
                  intro j hj
                  obtain rfl : j = 17 := by simpa using hj
                  refine lOp_app elt69 _ _ rfl rfl rfl rfl rfl (fun wg hg => HS2.out.below hg.below) (by omega) ?_
                  intro u3
                  go_simp
                  refine ⟨?_, ?_⟩
                  · kernel_rfl
                  intro wg hg
                  obtain ⟨ua, ucap, rfl⟩ := owns_val hg.row
                  have HG := Lib.hid (show Ow eE 107 wr wg (.slice ua (kk + 1 + (n2 - kk)) ucap) (insM M2 ⟨⟨a1, a2, a3, a4, n1, d1⟩, an, anc, ad, adc, ru, he⟩) from own_of hg (by rw [HL'.out.1]; try rfl) (by rw [HL'.out.2]; try simp))
                  have hlt := HL.out.q.ty.lt
                  have d1' := (hg.below.cell (p := ⟨rb, 1, none⟩) hlt).trans c1
                  have e1' := (hg.below.frozen (p := ⟨rb, 1, none⟩) hlt).trans (HL.out.q.thaw 1)
                  clear hg
                  go_wp2_with fail
                  go_ret
                  have hmem : ∀ z ∈ insM M2 ⟨⟨a1, a2, a3, a4, n1, d1⟩, an, anc, ad, adc, ru, he⟩, z = ⟨⟨a1, a2, a3, a4, n1, d1⟩, an, anc, ad, adc, ru, he⟩ ∨ z ∈ M2 := fun z hz => by
                    have := (insM_perm M2 ⟨⟨a1, a2, a3, a4, n1, d1⟩, an, anc, ad, adc, ru, he⟩).mem_iff.1 hz
                    simpa using this
                  have hpp := HL.out.q.put HG.out (fun z hz => by
                    rcases hmem z hz with rfl | hz
                    · exact ⟨HR1.out.only HL.out.pz.on HTR.out, HR2.out.only HL.out.pz.on HTR.out⟩
                    · exact HL.out.q.frac z hz) (fun z hz => by
                    rcases hmem z hz with rfl | hz
                    · exact HOJ.out
                    · exact HL.out.q.ok z hz)
                  exact ⟨rfl, ⟨⟨a1, a2, a3, a4, n1, d1⟩, an, anc, ad, adc, ru, he⟩, rfl, rfl, rfl, hpp.1, HL.out.pz.on.trans hpp.2⟩))
        · obtain rfl : kk = n2 := by omega
          have hkf : decide ((kk : Int) < (kk : Int)) = false := by simp
          have HNB : Hid (∀ x, M2[kk]? = some x → beforeF x.j (En.j ⟨⟨a1, a2, a3, a4, n1, d1⟩, an, anc, ad, adc, ru, he⟩) = false) := Lib.hid fun x hx => by
            have h1 := (List.getElem?_eq_some_iff.1 hx).1
            have h2 := HN2.out
            omega
          have HDR := Lib.hid (show M2.drop kk = [] from List.drop_of_length_le (by have := HN2.out; omega))
          obtain ⟨v, c1, hrow⟩ := HL1.out.q.row
          rw [HN2.out] at hrow
          rcases hrow.2 with ⟨rfl, h0⟩ | ⟨g, cap, cur, rfl, -, -, hcap1, hcap2, -⟩
          · cases h0
            clear hrow
            go_wp2_with fail
            refine wp_region_grow (Below wr0.heap.size wr0) (by kernel_rfl) (by kernel_rfl) (Below.refl _ _).drew ?_
            repeat first
                     | (apply gRow_plain
                        · exact rfl
                        · intro wg hg
                          ((have d1' := (hg.cell (p := ⟨rb, 1, none⟩) HL1.out.q.ty.lt).trans c1))
                          go_simp
                          first
                            | exact rfl
                            | exact hg
                            | exact ⟨hg, rfl⟩
                            | ((fail))
                        intro K hK
                        go_simp
                        refine hK _ ?_
                        clear hK K)
                     | (apply gRow_step
                        · go_simp; done
                        · intro wg hg
                          ((have d1' := (hg.cell (p := ⟨rb, 1, none⟩) HL1.out.q.ty.lt).trans c1))
                          go_simp
                          first
                            | exact rfl
                            | exact hg
                            | exact ⟨hg, rfl⟩
                            | ((fail))
                        intro K hK
                        go_simp
                        refine hK _ ?_
                        clear hK K)
                     | (apply gRow_not
                        · go_simp; done
                        intro K hK
                        go_simp
                        refine hK _ ?_
                        clear hK K)
            refine gRow_nil ?_
            intro wr hby
            have HL := Lib.hid (HL1.out.keep hby)
            have c1' := (hby.cell (p := ⟨rb, 1, none⟩) HL1.out.q.ty.lt).trans c1
            clear c1
            have c1 := c1'
            clear hby HL1 c1'
            go_wp2_with fail
            have HS1 := Lib.hid (show Src wr (.slice none 0 0) 9 0 (eE.flat (M2.take 0)) from src_none _ _)
            have HS2 := Lib.hid (show Src wr (.slice none 0 0) 9 0 (eE.flat (M2.drop 0)) by rw [HDR.out]; exact src_none _ _)
            (
              have HL' : Hid ((insM M2 ⟨⟨a1, a2, a3, a4, n1, d1⟩, an, anc, ad, adc, ru, he⟩).length = 0 + 1 + 0 ∧ eE.flat (insM M2 ⟨⟨a1, a2, a3, a4, n1, d1⟩, an, anc, ad, adc, ru, he⟩) = ([] ++ eE.flat (M2.take 0) ++ (ec ⟨⟨a1, a2, a3, a4, n1, d1⟩, an, anc, ad, adc, ru, he⟩).toList) ++ eE.flat (M2.drop 0)) := by
                have := HN2.out
                rw [insM_at HP.out HNB.out (by omega)]
                refine ⟨by rw [List.length_append, List.length_cons, List.length_take, List.length_drop]; omega, ?_⟩
                rw [flat_app, flat_cons]
                simp [eE]
              refine wp_region_pick_tail (Below wr.heap.size wr) (AS wr 107 9 (.slice none 0 0) 0 [] []) [0, 1, 2, 3, 4, 5, 6, 8, 11, 12, 13, 14, 15, 16] 4 18 (by kernel_rfl) ?_ AS.stable AS.base (AS.start wr 107 9) ?_
              · kernel_rfl
              repeat (apply pRow_plain
                      · exact rfl
                      · exact rfl
                      · intro wg hg
                        ((have d1' := (hg.cell (p := ⟨rb, 1, none⟩) HL.out.q.ty.lt).trans c1; obtain ⟨u0, u1, u2, u3, u4, u5, u6, u7, u8, -⟩ := (HL.out.pz.hbx.keep hg).lay9))
                        go_simp
                        first
                          | exact rfl
                          | exact Below.refl _ _
                          | exact ⟨Below.refl _ _, rfl⟩
                          | ((fail))
                      intro K hK
                      go_simp
                      refine hK _ ?_
                      clear hK K)
              refine pRow_nil ?_
              refine lAnyL_step [7, 9] ?_ (by simp) (by decide) ?_
              · kernel_rfl
              intro j hj
              have hj' : j = 7 ∨ j = 9 := by simpa using hj
              rcases hj' with rfl | rfl
              · refine lOp_app elt69 _ _ rfl rfl rfl rfl rfl (fun wg hg => HS1.out.below hg.below) (by omega) ?_
                intro u1
                go_simp
                refine lAnyL_step [9] ?_ (by simp) (by decide) ?_
                · kernel_rfl
                intro j hj
                obtain rfl : j = 9 := by simpa using hj
                refine lOp_build (ec ⟨⟨a1, a2, a3, a4, n1, d1⟩, an, anc, ad, adc, ru, he⟩) rfl rfl (fun w => by go_simp) ?_
                intro bq
                go_simp
                (
                  refine lAnyL_step [10] ?_ (by simp) (by decide) ?_
                  · kernel_rfl
                  intro j hj
                  obtain rfl : j = 10 := by simpa using hj
                  refine lOp_app elt69 _ _ rfl rfl rfl rfl rfl (fun wg hg => hg.src (c := ec ⟨⟨a1, a2, a3, a4, n1, d1⟩, an, anc, ad, adc, ru, he⟩) (by simp) rfl (by intro u hu; simp at hu; rcases hu with rfl | rfl | rfl | rfl | rfl | rfl | rfl | rfl | rfl <;> rfl)) (by omega) ?_
                  intro u2
                  go_simp
                  refine lAnyL_step [17] ?_ (by simp) (by decide) ?_
                  · kernel_rfl
                  intro j hj
                  obtain rfl : j = 17 := by simpa using hj
                  refine lOp_app elt69 _ _ rfl rfl rfl rfl rfl (fun wg hg => HS2.out.below hg.below) (by omega) ?_
                  intro u3
                  go_simp
                  refine ⟨?_, ?_⟩
                  · kernel_rfl
                  intro wg hg
                  obtain ⟨ua, ucap, rfl⟩ := owns_val hg.row
                  have HG := Lib.hid (show Ow eE 107 wr wg (.slice ua (0 + 1 + 0) ucap) (insM M2 ⟨⟨a1, a2, a3, a4, n1, d1⟩, an, anc, ad, adc, ru, he⟩) from own_of hg (by rw [HL'.out.1]; try rfl) (by rw [HL'.out.2]; try simp))
                  have hlt := HL.out.q.ty.lt
                  have d1' := (hg.below.cell (p := ⟨rb, 1, none⟩) hlt).trans c1
                  have e1' := (hg.below.frozen (p := ⟨rb, 1, none⟩) hlt).trans (HL.out.q.thaw 1)
                  clear hg
                  go_wp2_with fail
                  go_ret
                  have hmem : ∀ z ∈ insM M2 ⟨⟨a1, a2, a3, a4, n1, d1⟩, an, anc, ad, adc, ru, he⟩, z = ⟨⟨a1, a2, a3, a4, n1, d1⟩, an, anc, ad, adc, ru, he⟩ ∨ z ∈ M2 := fun z hz => by
                    have := (insM_perm M2 ⟨⟨a1, a2, a3, a4, n1, d1⟩, an, anc, ad, adc, ru, he⟩).mem_iff.1 hz
                    simpa using this
                  have hpp := HL.out.q.put HG.out (fun z hz => by
                    rcases hmem z hz with rfl | hz
                    · exact ⟨HR1.out.only HL.out.pz.on HTR.out, HR2.out.only HL.out.pz.on HTR.out⟩
                    · exact HL.out.q.frac z hz) (fun z hz => by
                    rcases hmem z hz with rfl | hz
                    · exact HOJ.out
                    · exact HL.out.q.ok z hz)
                  exact ⟨rfl, ⟨⟨a1, a2, a3, a4, n1, d1⟩, an, anc, ad, adc, ru, he⟩, rfl, rfl, rfl, hpp.1, HL.out.pz.on.trans hpp.2⟩)
              · refine lOp_build (ec ⟨⟨a1, a2, a3, a4, n1, d1⟩, an, anc, ad, adc, ru, he⟩) rfl rfl (fun w => by go_simp) ?_
                intro bq
                go_simp
                refine lAnyL_step [7] ?_ (by simp) (by decide) ?_
                · kernel_rfl
                intro j hj
                obtain rfl : j = 7 := by simpa using hj
                refine lOp_app elt69 _ _ rfl rfl rfl rfl rfl (fun wg hg => HS1.out.below hg.below) (by omega) ?_
                intro u1
                go_simp
                (
                  refine lAnyL_step [10] ?_ (by simp) (by decide) ?_
                  · kernel_rfl
                  intro j hj
                  obtain rfl : j = 10 := by simpa using hj
                  refine lOp_app elt69 _ _ rfl rfl rfl rfl rfl (fun wg hg => hg.src (c := ec ⟨⟨a1, a2, a3, a4, n1, d1⟩, an, anc, ad, adc, ru, he⟩) (by simp) rfl (by intro u hu; simp at hu; rcases hu with rfl | rfl | rfl | rfl | rfl | rfl | rfl | rfl | rfl <;> rfl)) (by omega) ?_
                  intro u2
                  go_simp
                  refine lAnyL_step [17] ?_ (by simp) (by decide) ?_
                  · kernel_rfl
                  intro j hj
                  obtain rfl : j = 17 := by simpa using hj
                  refine lOp_app elt69 _ _ rfl rfl rfl rfl rfl (fun wg hg => HS2.out.below hg.below) (by omega) ?_
                  intro u3
                  go_simp
                  refine ⟨?_, ?_⟩
                  · kernel_rfl
                  intro wg hg
                  obtain ⟨ua, ucap, rfl⟩ := owns_val hg.row
                  have HG := Lib.hid (show Ow eE 107 wr wg (.slice ua (0 + 1 + 0) ucap) (insM M2 ⟨⟨a1, a2, a3, a4, n1, d1⟩, an, anc, ad, adc, ru, he⟩) from own_of hg (by rw [HL'.out.1]; try rfl) (by rw [HL'.out.2]; try simp))
                  have hlt := HL.out.q.ty.lt
                  have d1' := (hg.below.cell (p := ⟨rb, 1, none⟩) hlt).trans c1
                  have e1' := (hg.below.frozen (p := ⟨rb, 1, none⟩) hlt).trans (HL.out.q.thaw 1)
                  clear hg
                  go_wp2_with fail
                  go_ret
                  have hmem : ∀ z ∈ insM M2 ⟨⟨a1, a2, a3, a4, n1, d1⟩, an, anc, ad, adc, ru, he⟩, z = ⟨⟨a1, a2, a3, a4, n1, d1⟩, an, anc, ad, adc, ru, he⟩ ∨ z ∈ M2 := fun z hz => by
                    have := (insM_perm M2 ⟨⟨a1, a2, a3, a4, n1, d1⟩, an, anc, ad, adc, ru, he⟩).mem_iff.1 hz
                    simpa using this
                  have hpp := HL.out.q.put HG.out (fun z hz => by
                    rcases hmem z hz with rfl | hz
                    · exact ⟨HR1.out.only HL.out.pz.on HTR.out, HR2.out.only HL.out.pz.on HTR.out⟩
                    · exact HL.out.q.frac z hz) (fun z hz => by
                    rcases hmem z hz with rfl | hz
                    · exact HOJ.out
                    · exact HL.out.q.ok z hz)
                  exact ⟨rfl, ⟨⟨a1, a2, a3, a4, n1, d1⟩, an, anc, ad, adc, ru, he⟩, rfl, rfl, rfl, hpp.1, HL.out.pz.on.trans hpp.2⟩))
          · unfold maxLen at hcap2
            have HRW := Lib.hid hrow
            clear hrow
            have hq2 : cap ≤ 9223372036854775807 := by omega
            go_wp2_with fail
            refine wp_region_grow (Below wr0.heap.size wr0) (by kernel_rfl) (by kernel_rfl) (Below.refl _ _).drew ?_
            repeat first
                     | (apply gRow_plain
                        · exact rfl
                        · intro wg hg
                          ((have d1' := (hg.cell (p := ⟨rb, 1, none⟩) HL1.out.q.ty.lt).trans c1))
                          go_simp
                          first
                            | exact rfl
                            | exact hg
                            | exact ⟨hg, rfl⟩
                            | ((fail))
                        intro K hK
                        go_simp
                        refine hK _ ?_
                        clear hK K)
                     | (apply gRow_step
                        · go_simp; done
                        · intro wg hg
                          ((have d1' := (hg.cell (p := ⟨rb, 1, none⟩) HL1.out.q.ty.lt).trans c1))
                          go_simp
                          first
                            | exact rfl
                            | exact hg
                            | exact ⟨hg, rfl⟩
                            | ((fail))
                        intro K hK
                        go_simp
                        refine hK _ ?_
                        clear hK K)
                     | (apply gRow_not
                        · go_simp; done
                        intro K hK
                        go_simp
                        refine hK _ ?_
                        clear hK K)
            refine gRow_nil ?_
            intro wr hby
            have HL := Lib.hid (HL1.out.keep hby)
            have HRX := Lib.hid (owns_below HRW.out hby)
            have c1' := (hby.cell (p := ⟨rb, 1, none⟩) HL1.out.q.ty.lt).trans c1
            clear c1
            have c1 := c1'
            clear hby HL1 HRW c1'
            go_wp2_with fail
            have hic : kk ≤ cap := by omega
            have hin2 : kk ≤ kk := by omega
            have hin3 : (kk : Int) ≤ (kk : Int) := by omega
            obtain ⟨sa, hif⟩ : ∃ sa, (if cap = kk then some (⟨g, 0, none⟩ : Addr) else some ⟨g, kk * 9, none⟩) = sa := ⟨_, rfl⟩
            have HS1 := Lib.hid (show Src wr (.slice (some ⟨g, 0, none⟩) kk cap) 9 kk (eE.flat (M2.take kk)) by
              have := src_take HRX.out (flat_one _) hin2 cap
              rwa [show (eE.flat M2).take (kk * 9) = eE.flat (M2.take kk) from (flat_take (E := eE) M2 kk).symm] at this)
            have HS2 := Lib.hid (show Src wr (.slice sa 0 (cap - kk)) 9 0 (eE.flat (M2.drop kk)) by
              rw [HDR.out]
              exact src_none _ _)
            (
              have HL' : Hid ((insM M2 ⟨⟨a1, a2, a3, a4, n1, d1⟩, an, anc, ad, adc, ru, he⟩).length = kk + 1 + 0 ∧ eE.flat (insM M2 ⟨⟨a1, a2, a3, a4, n1, d1⟩, an, anc, ad, adc, ru, he⟩) = ([] ++ eE.flat (M2.take kk) ++ (ec ⟨⟨a1, a2, a3, a4, n1, d1⟩, an, anc, ad, adc, ru, he⟩).toList) ++ eE.flat (M2.drop kk)) := by
                have := HN2.out
                rw [insM_at HP.out HNB.out (by omega)]
                refine ⟨by rw [List.length_append, List.length_cons, List.length_take, List.length_drop]; omega, ?_⟩
                rw [flat_app, flat_cons]
                simp [eE]
              refine wp_region_pick_tail (Below wr.heap.size wr) (AS wr 107 9 (.slice none 0 0) 0 [] []) [0, 1, 2, 3, 4, 5, 6, 8, 11, 12, 13, 14, 15, 16] 4 18 (by kernel_rfl) ?_ AS.stable AS.base (AS.start wr 107 9) ?_
              · kernel_rfl
              repeat (apply pRow_plain
                      · exact rfl
                      · exact rfl
                      · intro wg hg
                        ((have d1' := (hg.cell (p := ⟨rb, 1, none⟩) HL.out.q.ty.lt).trans c1; obtain ⟨u0, u1, u2, u3, u4, u5, u6, u7, u8, -⟩ := (HL.out.pz.hbx.keep hg).lay9))
                        go_simp
                        first
                          | exact rfl
                          | exact Below.refl _ _
                          | exact ⟨Below.refl _ _, rfl⟩
                          | ((fail))
                      intro K hK
                      go_simp
                      refine hK _ ?_
                      clear hK K)
              refine pRow_nil ?_
              refine lAnyL_step [7, 9] ?_ (by simp) (by decide) ?_
              · kernel_rfl
              intro j hj
              have hj' : j = 7 ∨ j = 9 := by simpa using hj
              rcases hj' with rfl | rfl
              · refine lOp_app elt69 _ _ rfl rfl rfl rfl rfl (fun wg hg => HS1.out.below hg.below) (by omega) ?_
                intro u1
                go_simp
                refine lAnyL_step [9] ?_ (by simp) (by decide) ?_
                · kernel_rfl
                intro j hj
                obtain rfl : j = 9 := by simpa using hj
                refine lOp_build (ec ⟨⟨a1, a2, a3, a4, n1, d1⟩, an, anc, ad, adc, ru, he⟩) rfl rfl (fun w => by go_simp) ?_
                intro bq
                go_simp
                (
                  refine lAnyL_step [10] ?_ (by simp) (by decide) ?_
                  · kernel_rfl
                  intro j hj
                  obtain rfl : j = 10 := by simpa using hj
                  refine lOp_app elt69 _ _ rfl rfl rfl rfl rfl (fun wg hg => hg.src (c := ec ⟨⟨a1, a2, a3, a4, n1, d1⟩, an, anc, ad, adc, ru, he⟩) (by simp) rfl (by intro u hu; simp at hu; rcases hu with rfl | rfl | rfl | rfl | rfl | rfl | rfl | rfl | rfl <;> rfl)) (by omega) ?_
                  intro u2
                  go_simp
                  refine lAnyL_step [17] ?_ (by simp) (by decide) ?_
                  · kernel_rfl
                  intro j hj
                  obtain rfl : j = 17 := by simpa using hj
                  refine lOp_app elt69 _ _ rfl rfl rfl rfl rfl (fun wg hg => HS2.out.below hg.below) (by omega) ?_
                  intro u3
                  go_simp
                  refine ⟨?_, ?_⟩
                  · kernel_rfl
                  intro wg hg
                  obtain ⟨ua, ucap, rfl⟩ := owns_val hg.row
                  have HG := Lib.hid (show Ow eE 107 wr wg (.slice ua (kk + 1 + 0) ucap) (insM M2 ⟨⟨a1, a2, a3, a4, n1, d1⟩, an, anc, ad, adc, ru, he⟩) from own_of hg (by rw [HL'.out.1]; try rfl) (by rw [HL'.out.2]; try simp))
                  have hlt := HL.out.q.ty.lt
                  have d1' := (hg.below.cell (p := ⟨rb, 1, none⟩) hlt).trans c1
                  have e1' := (hg.below.frozen (p := ⟨rb, 1, none⟩) hlt).trans (HL.out.q.thaw 1)
                  clear hg
                  go_wp2_with fail
                  go_ret
                  have hmem : ∀ z ∈ insM M2 ⟨⟨a1, a2, a3, a4, n1, d1⟩, an, anc, ad, adc, ru, he⟩, z = ⟨⟨a1, a2, a3, a4, n1, d1⟩, an, anc, ad, adc, ru, he⟩ ∨ z ∈ M2 := fun z hz => by
                    have := (insM_perm M2 ⟨⟨a1, a2, a3, a4, n1, d1⟩, an, anc, ad, adc, ru, he⟩).mem_iff.1 hz
                    simpa using this
                  have hpp := HL.out.q.put HG.out (fun z hz => by
                    rcases hmem z hz with rfl | hz
                    · exact ⟨HR1.out.only HL.out.pz.on HTR.out, HR2.out.only HL.out.pz.on HTR.out⟩
                    · exact HL.out.q.frac z hz) (fun z hz => by
                    rcases hmem z hz with rfl | hz
                    · exact HOJ.out
                    · exact HL.out.q.ok z hz)
                  exact ⟨rfl, ⟨⟨a1, a2, a3, a4, n1, d1⟩, an, anc, ad, adc, ru, he⟩, rfl, rfl, rfl, hpp.1, HL.out.pz.on.trans hpp.2⟩)
              · refine lOp_build (ec ⟨⟨a1, a2, a3, a4, n1, d1⟩, an, anc, ad, adc, ru, he⟩) rfl rfl (fun w => by go_simp) ?_
                intro bq
                go_simp
                refine lAnyL_step [7] ?_ (by simp) (by decide) ?_
                · kernel_rfl
                intro j hj
                obtain rfl : j = 7 := by simpa using hj
                refine lOp_app elt69 _ _ rfl rfl rfl rfl rfl (fun wg hg => HS1.out.below hg.below) (by omega) ?_
                intro u1
                go_simp
                (
                  refine lAnyL_step [10] ?_ (by simp) (by decide) ?_
                  · kernel_rfl
                  intro j hj
                  obtain rfl : j = 10 := by simpa using hj
                  refine lOp_app elt69 _ _ rfl rfl rfl rfl rfl (fun wg hg => hg.src (c := ec ⟨⟨a1, a2, a3, a4, n1, d1⟩, an, anc, ad, adc, ru, he⟩) (by simp) rfl (by intro u hu; simp at hu; rcases hu with rfl | rfl | rfl | rfl | rfl | rfl | rfl | rfl | rfl <;> rfl)) (by omega) ?_
                  intro u2
                  go_simp
                  refine lAnyL_step [17] ?_ (by simp) (by decide) ?_
                  · kernel_rfl
                  intro j hj
                  obtain rfl : j = 17 := by simpa using hj
                  refine lOp_app elt69 _ _ rfl rfl rfl rfl rfl (fun wg hg => HS2.out.below hg.below) (by omega) ?_
                  intro u3
                  go_simp
                  refine ⟨?_, ?_⟩
                  · kernel_rfl
                  intro wg hg
                  obtain ⟨ua, ucap, rfl⟩ := owns_val hg.row
                  have HG := Lib.hid (show Ow eE 107 wr wg (.slice ua (kk + 1 + 0) ucap) (insM M2 ⟨⟨a1, a2, a3, a4, n1, d1⟩, an, anc, ad, adc, ru, he⟩) from own_of hg (by rw [HL'.out.1]; try rfl) (by rw [HL'.out.2]; try simp))
                  have hlt := HL.out.q.ty.lt
                  have d1' := (hg.below.cell (p := ⟨rb, 1, none⟩) hlt).trans c1
                  have e1' := (hg.below.frozen (p := ⟨rb, 1, none⟩) hlt).trans (HL.out.q.thaw 1)
                  clear hg
                  go_wp2_with fail
                  go_ret
                  have hmem : ∀ z ∈ insM M2 ⟨⟨a1, a2, a3, a4, n1, d1⟩, an, anc, ad, adc, ru, he⟩, z = ⟨⟨a1, a2, a3, a4, n1, d1⟩, an, anc, ad, adc, ru, he⟩ ∨ z ∈ M2 := fun z hz => by
                    have := (insM_perm M2 ⟨⟨a1, a2, a3, a4, n1, d1⟩, an, anc, ad, adc, ru, he⟩).mem_iff.1 hz
                    simpa using this
                  have hpp := HL.out.q.put HG.out (fun z hz => by
                    rcases hmem z hz with rfl | hz
                    · exact ⟨HR1.out.only HL.out.pz.on HTR.out, HR2.out.only HL.out.pz.on HTR.out⟩
                    · exact HL.out.q.frac z hz) (fun z hz => by
                    rcases hmem z hz with rfl | hz
                    · exact HOJ.out
                    · exact HL.out.q.ok z hz)
                  exact ⟨rfl, ⟨⟨a1, a2, a3, a4, n1, d1⟩, an, anc, ad, adc, ru, he⟩, rfl, rfl, rfl, hpp.1, HL.out.pz.on.trans hpp.2⟩))))
end Go.Proofs.YtgnmolleaengaaaGreat
