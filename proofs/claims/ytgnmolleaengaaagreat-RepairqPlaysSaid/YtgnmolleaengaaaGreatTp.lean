/- The walk of RepairqPlays. -/
import Derived.Test.YtgnmolleaengaaaGreatUl
set_option linter.unusedVariables false
set_option linter.unusedSimpArgs false
set_option linter.unnecessarySimpa false
namespace Go.Proofs.YtgnmolleaengaaaGreat
open Go Go.RowKit

/-- the state of the law -/
structure Sp (n qb rb : Nat) (w wr : World) : Prop where
  both : ∃ L M, Fin' n L M ∧ Qp w.heap.size qb n L wr ∧ Rq rb n M wr
  below : Below w.heap.size w wr

set_option maxRecDepth 20000 in
set_option maxHeartbeats 8000000 in
theorem plays_law (a : Option Addr) (len cap : Nat) (F : Nat → Opc) (sl : Int) (w : World) (hF : Seq w (.slice a len cap) 7 len (fun i => (oc (F i)).toList)) (hB : ∀ i, i < len → OkOp (F i)) (h1 : -9223372036854775808 ≤ sl ∧ sl ≤ 9223372036854775807) :
    Calls Tryz.prog 5 #[.int .i64 sl, .slice a len cap] w fun e w' => e = .returned (.bool true) ∧ Below w.heap.size w w' := by
  by_cases h60 : 60 < len
  · go_enter Tryz.func5, Tryz.ntmps5
    go_wp2_with (go_at_call 11; (with_reducible refine (awake_any _).mono ?_); rintro e w1 ⟨rfl, hb⟩; have HB1 := Lib.hid hb; clear hb)
    go_ret
    exact ⟨rfl, HB1.out⟩
  · have HF := Lib.hid hF
    have HO := Lib.hid hB
    have hd : decide (60 < (len : Int)) = false := by simp; omega
    have hlen : len ≤ 60 := by omega
    obtain ⟨m, hm⟩ : ∃ m : Nat, sl % 4 = m := ⟨(sl % 4).toNat, by omega⟩
    have KW := Lib.hid (hm ▸ within_any sl 4 w (by omega) (by omega) h1.1 h1.2)
    obtain ⟨n, hn⟩ : ∃ n : Nat, m + 1 = n := ⟨_, rfl⟩
    have hn4 : n ≤ 4 := by omega
    have hn1 : 1 ≤ n := by omega
    have hni : 1 + (m : Int) = (n : Int) := by omega
    have hwn : IntKind.i64.wrap (n : Int) = (n : Int) := IntWalk.i64_in _ (by omega)
    have KN := fun w => Lib.hid (new_as (n := n) hn1 (by omega) w)
    have KR := fun w => Lib.hid (rnew_as (n := n) hn1 (by omega) w)
    clear hF hB h60 hm hn h1
    go_enter Tryz.func5, Tryz.ntmps5
    go_wp2_with (first
      | (go_at_call 19; (with_reducible refine KW.out.mono ?_); rintro e w1 ⟨rfl, rfl⟩)
      | (go_at_call 12; (with_reducible refine (KN _).out.mono ?_); rintro e w1 ⟨qb, rfl, hq, hb⟩; have HQ1 := Lib.hid hq; have HB1 := Lib.hid hb; clear hq hb)
      | (go_at_call 13; (with_reducible refine (KR _).out.mono ?_); rintro e w2 ⟨rb, rfl, hr, hrb, hb⟩; have HRB := Lib.hid (Nat.le_trans HB1.out.size hrb); have HS := Lib.hid (show Sp n qb rb w w2 from ⟨⟨[], [], ⟨⟨[], In2.nil n⟩, rfl⟩, HQ1.out.keep hb, hr⟩, HB1.out.trans (hb.mono HB1.out.size)⟩); clear hr hrb hb))
    clear KW KN KR hni hwn HQ1 HB1
    go_loopw [10] (fun s wr => ∃ k : Nat, s = .int .i64 k ∧ k ≤ len ∧ Hid (Sp n qb rb w wr)) (fun s _ => len - (intOf s).toNat)
    case atStart => exact ⟨0, rfl, Nat.zero_le _, HS⟩
    case round =>
      clear HS
      obtain ⟨k, rfl, hk, HS⟩ := hrel
      rename World => wr
      by_cases hkn : k < len
      · obtain ⟨o, ho⟩ : ∃ o, F k = o := ⟨_, rfl⟩
        obtain ⟨a', cap', hv, hc1, hc2, hcell⟩ := HF.out
        cases hv
        obtain ⟨b, off, rfl, hbl, hc⟩ := hcell k hkn
        simp only [ho] at hc
        have hok : OkOp o := ho ▸ HO.out k hkn
        have hw := HS.out.below
        obtain ⟨L, M, hfin, hq, hr⟩ := HS.out.both
        have KD := Lib.hid (do_as hq hr HRB.out hw hfin hn4 o hok)
        obtain ⟨kd, ovo, ofr, ocl, ore, onu, ode⟩ := o
        have e0 := (hw.cell (p := ⟨b, off + k * 7, none⟩) hbl).trans (hc 0 _ rfl)
        have e1 := (hw.cell (p := ⟨b, off + k * 7 + 1, none⟩) hbl).trans (hc 1 _ rfl)
        have e2 := (hw.cell (p := ⟨b, off + k * 7 + 2, none⟩) hbl).trans (hc 2 _ rfl)
        have e3 := (hw.cell (p := ⟨b, off + k * 7 + 3, none⟩) hbl).trans (hc 3 _ rfl)
        have e4 := (hw.cell (p := ⟨b, off + k * 7 + 4, none⟩) hbl).trans (hc 4 _ rfl)
        have e5 := (hw.cell (p := ⟨b, off + k * 7 + 5, none⟩) hbl).trans (hc 5 _ rfl)
        have e6 := (hw.cell (p := ⟨b, off + k * 7 + 6, none⟩) hbl).trans (hc 6 _ rfl)
        have hib : (k : Int) < (len : Int) := by omega
        unfold DoPost at KD
        clear hcell ho hc hok hw hbl hq hr hfin
        go_wp2_with (first
          | (go_at_call 20; (with_reducible refine KD.out.mono ?_); rintro e w3 ⟨rfl, L', M', hf, hq, hr, hb⟩; have HF3 := Lib.hid hf; have HE3 := Lib.hid (show L'.map ab = M'.map ab from hf.2); have HL3 := Lib.hid hf.len; have HQ3 := Lib.hid hq; have HR3 := Lib.hid hr; have HB3 := Lib.hid hb; clear hf hq hr hb)
          | (go_at_call 21; (with_reducible refine (alike_as HQ3.out HR3.out HE3.out (by have := HL3.out; omega)).mono ?_); rintro e w4 ⟨rfl, hb⟩; have HS4 := Lib.hid (show Sp n qb rb w w4 from ⟨⟨L', M', HF3.out, HQ3.out.keep hb, HR3.out.keep hb⟩, HB3.out.trans (hb.mono HB3.out.size)⟩); clear hb))
        go_roundw
        case rel => exact ⟨k + 1, by go_num, by omega, HS4⟩
        case measure => simp [intOf]; omega
      · obtain rfl : k = len := by omega
        go_wp2_with (go_at_call 11; (with_reducible refine (awake_any _).mono ?_); rintro e w1 ⟨rfl, hb⟩; have HBE := Lib.hid (HS.out.below.trans (hb.mono HS.out.below.size)); clear hb)
        go_ret
        exact ⟨rfl, HBE.out⟩
end Go.Proofs.YtgnmolleaengaaaGreat
