/- The walks of the reference's Mul, and of its fractions: times, Valid, Order, Cmp. -/
import Derived.Test.YtgnmolleaengaaaGreatS1
import Derived.Test.YtgnmolleaengaaaGreatNg
set_option linter.unusedVariables false
set_option linter.unusedSimpArgs false
set_option linter.unnecessarySimpa false
namespace Go.Proofs.YtgnmolleaengaaaGreat
open Go Go.RowKit

theorem mulL_clen {l m : List Nat} (hL : Lims l) (hM : Lims m) : clen (mulL l m) ≤ clen l + clen m := Nat.le_trans (clen_le _) (mulL_len hL hM)

set_option maxRecDepth 20000 in
set_option maxHeartbeats 2000000 in
theorem rmul_any {w : World} {v u : Value} {l m : List Nat} (h : Rd eU w v l) (h2 : Rd eU w u m) (hs : clen l + clen m ≤ 512) (hL : Lims l) (hM : Lims m) :
    Calls Tryz.prog 97 #[v, u] w fun e w' => ∃ a c, e = .returned (.tuple #[.slice a (mulL l m).length c, .int .i64 0]) ∧ Ru w' (.slice a (mulL l m).length c) (mulL l m) ∧ Below w.heap.size w w' := by
  have HR := Lib.hid h
  have HR2 := Lib.hid h2
  have HK1 := Lib.hid (show clen l ≤ 512 by omega)
  have HK2 := Lib.hid (show clen m ≤ 512 by omega)
  have HK3 := Lib.hid (show clen (mulL l m) ≤ 512 by have := mulL_clen hL hM; omega)
  have HT := Lib.hid (show (trim l).length + (trim m).length ≤ 512 by rw [trim_len, trim_len]; exact hs)
  have HLL := Lib.hid hL.trim
  have HLM := Lib.hid hM.trim
  obtain ⟨a, cap, rfl, -⟩ := h.open
  obtain ⟨a2, cap2, rfl, -⟩ := h2.open
  clear h h2 hs hL hM
  have TOK := Lib.hid True.intro
  go_enter Tryz.func97, Tryz.ntmps97
  go_wp2_with (first
    | (go_at_call 95; have _t := TOK; (with_reducible refine (rlarge_as HR.out HK1.out).mono ?_); rintro e w1 ⟨rfl, hb⟩; have HB1 := Lib.hid hb; have HQ1 := Lib.hid (HR.out.keep hb); have HQ2 := Lib.hid (HR2.out.keep hb); have TOK2 := Lib.hid True.intro; clear hb TOK _t)
    | (go_at_call 95; have _t := TOK2; (with_reducible refine (rlarge_as HQ2.out HK2.out).mono ?_); rintro e w2 ⟨rfl, hb⟩; have HB2 := Lib.hid (HB1.out.trans (hb.mono HB1.out.size)); have HP1 := Lib.hid (HQ1.out.keep hb); have HP2 := Lib.hid (HQ2.out.keep hb); have TOK3 := Lib.hid True.intro; clear hb TOK2 _t)
    | (go_at_call 51; have _t := TOK3; (with_reducible refine (rtrim_any HP1.out (by have := HK1.out; omega)).mono ?_); rintro e w3 ⟨p1, c1, rfl, r1, hb⟩; have HB3 := Lib.hid (HB2.out.trans (hb.mono HB2.out.size)); have HU1 := Lib.hid r1; have HP3 := Lib.hid (HP2.out.keep hb); have TOK4 := Lib.hid True.intro; clear hb r1 TOK3 _t)
    | (go_at_call 51; have _t := TOK4; (with_reducible refine (rtrim_any HP3.out (by have := HK2.out; omega)).mono ?_); rintro e w4 ⟨p2, c2, rfl, r1, hb⟩; have HB4 := Lib.hid (HB3.out.trans (hb.mono HB3.out.size)); have HU2 := Lib.hid r1; have HU3 := Lib.hid (HU1.out.keep hb); clear hb r1 TOK4 _t)
    | (go_at_call 113; (with_reducible refine (rtimes_any HU3.out.rd HU2.out.rd HT.out HLL.out HLM.out).mono ?_); rintro e w5 ⟨p3, c3, rfl, r1, hb⟩; have HB5 := Lib.hid (HB4.out.trans (hb.mono HB4.out.size)); have HM : Hid (Ru w5 (.slice p3 (mulL l m).length c3) (mulL l m)) := Lib.hid r1; have HMR := Lib.hid HM.out.rd; change Hid (Rd eU w5 (.slice p3 (trim (mul0 (trim l) (trim m))).length c3) (mulL l m)) at HMR; clear hb r1)
    | (go_at_call 95; (with_reducible refine (rlarge_as HMR.out HK3.out).mono ?_); rintro e w6 ⟨rfl, hb⟩; have HB6 := Lib.hid (HB5.out.trans (hb.mono HB5.out.size)); have HM6 := Lib.hid (HM.out.keep hb); clear hb))
  go_ret2
  exact ⟨p3, c3, rfl, HM6.out, HB6.out⟩

theorem rft_any {w : World} {v u : Value} {l m : List Nat} (h : Rd eU w v l) (h2 : Rd eU w u m) (hs : clen l + clen m ≤ 512) (hL : Lims l) (hM : Lims m) : Calls Tryz.prog 72 #[v, u] w (SlPost w (mulL l m)) := by
  have KM := Lib.hid (rmul_any h h2 hs hL hM)
  obtain ⟨a, cap, rfl, -⟩ := h.open
  obtain ⟨a2, cap2, rfl, -⟩ := h2.open
  obtain ⟨M, hm⟩ : ∃ M, mulL l m = M := ⟨_, rfl⟩
  rw [hm] at KM ⊢
  clear h h2 hs hL hM hm
  go_enter Tryz.func72, Tryz.ntmps72
  go_wp2_with (go_at_call 97; (with_reducible refine KM.out.mono ?_); rintro e w1 ⟨p, c, rfl, hr, hb⟩; have HR := Lib.hid hr; have HB := Lib.hid hb; clear hr hb)
  go_ret
  exact ⟨p, c, rfl, HR.out, HB.out⟩
end Go.Proofs.YtgnmolleaengaaaGreat
