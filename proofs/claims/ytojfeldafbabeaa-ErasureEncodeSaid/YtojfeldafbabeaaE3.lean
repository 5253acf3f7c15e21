/- The walk of the law ErasureEncode. -/
import Derived.Test.YtojfeldafbabeaaAw
import Derived.Test.YtojfeldafbabeaaLo
import Derived.Test.YtojfeldafbabeaaS2
set_option linter.unusedVariables false
set_option linter.unusedSimpArgs false
set_option linter.unnecessarySimpa false
namespace Go.Proofs.Ytojfeldafbabeaa
open Go.RowKit Go.Mem Go.Deep

theorem short0 {rows : List (List Nat)} (h : Short rows) : (rows.getD 0 []).length ≤ 2000 := by
  by_cases h0 : 0 < rows.length
  · exact h.2 0 h0
  · have : rows = [] := List.eq_nil_of_length_eq_zero (by omega)
    subst this; simp

set_option maxHeartbeats 1000000 in
theorem encode_law (k m j i : Int) (data : List (List Nat)) (vd : Value) (w : World) (hd : Mat w vd data) :
    Calls Try.prog 3 #[.int .i64 k, .int .i64 m, vd, .int .i64 j, .int .i64 i] w (Yes w) := by
  have HD := Lib.hid hd
  clear hd
  by_cases hok : EncOk k m data
  · obtain ⟨hc, hlen, hlev⟩ := hok
    obtain ⟨a, b, rfl, rfl, h1, h6, h4, h8⟩ := codeB_nat hc
    have hla : data.length = a := by omega
    have HC := Lib.hid hc
    have HLA := Lib.hid hla
    have HLE := Lib.hid hlev
    clear hc hlen hla hlev
    go_enter Try.func3, Try.ntmps3
    go_wp2_with (first | (go_at_call 11; refine (long_any data _ _ HD.out).mono ?_; rintro e w2 ⟨lb, rfl, rfl, hb⟩; have HSH := Lib.hid hb; clear hb) | (go_at_call 12; refine (awake_any _).mono ?_; rintro e wa ⟨rfl, hba⟩; have HBA := Lib.hid hba; clear hba) | (go_at_call 13; (have hsh := HSH.out (by assumption)); refine (enc_ok a b data _ _ HD.out HC.out HLA.out HLE.out (short0 hsh)).mono ?_; rintro e w3 ⟨va, vs, rfl, hr, hb3⟩; (have HA := Lib.hid (And.intro (hr.mat (by rw [wordTo_len]; omega)) hb3)); clear hr hb3) | (go_at_call 14; refine (refEnc_ok a b data _ _ (HD.out.below HA.out.2 (Nat.le_refl _)) HC.out HLA.out HLE.out (short0 hsh)).mono ?_; rintro e w4 ⟨vb, vs, rfl, hr, hb4⟩; (have HB := Lib.hid (And.intro (hr.mat (by rw [wordTo_len]; omega)) hb4)); clear hr hb4) | (go_at_call 15; refine (sameRows_any _ _ _ _ (HA.out.1.below HB.out.2 (Nat.le_refl _)) HB.out.1).mono ?_; rintro e w5 ⟨rfl, hb5⟩; have HB5 := Lib.hid hb5; clear hb5) | (go_at_call 16; refine (coef_any _ _ _).mono ?_; rintro e w5 ⟨rfl, rfl⟩) | (go_at_call 17; refine (refCoef_any _ _ _).mono ?_; rintro e w5 ⟨rfl, rfl⟩))
    · go_ret
      exact ⟨rfl, HBA.out⟩
    · go_ret
      have h3 := HA.out.2.size
      have h4 := HB.out.2.size
      have h5 := HB5.out.size
      exact ⟨rfl, ((HA.out.2.trans (HB.out.2.mono h3)).trans (HB5.out.mono (by omega))).trans (HBA.out.mono (by omega))⟩
  · have HC := Lib.hid hok
    clear hok
    go_enter Try.func3, Try.ntmps3
    go_wp2_with (first | (go_at_call 11; refine (long_any data _ _ HD.out).mono ?_; rintro e w2 ⟨lb, rfl, rfl, hb⟩; have HSH := Lib.hid hb; clear hb) | (go_at_call 12; refine (awake_any _).mono ?_; rintro e wa ⟨rfl, hba⟩; have HBA := Lib.hid hba; clear hba) | (go_at_call 13; refine (enc_bad k m data _ _ HD.out HC.out).mono ?_; rintro e w3 ⟨rfl, hb3⟩; (have HA := Lib.hid hb3); clear hb3) | (go_at_call 14; refine (refEnc_bad k m data _ _ (HD.out.below HA.out (Nat.le_refl _)) HC.out).mono ?_; rintro e w4 ⟨rfl, hb4⟩; (have HB := Lib.hid hb4); clear hb4) | (go_at_call 15; refine (sameRows_any [] _ _ _ (Mat.nil _) (Mat.nil _)).mono ?_; rintro e w5 ⟨rfl, hb5⟩; have HB5 := Lib.hid hb5; clear hb5) | (go_at_call 16; refine (coef_any _ _ _).mono ?_; rintro e w5 ⟨rfl, rfl⟩) | (go_at_call 17; refine (refCoef_any _ _ _).mono ?_; rintro e w5 ⟨rfl, rfl⟩))
    · go_ret
      exact ⟨rfl, HBA.out⟩
    · go_ret
      have h3 := HA.out.size
      have h4 := HB.out.size
      have h5 := HB5.out.size
      exact ⟨rfl, ((HA.out.trans (HB.out.mono h3)).trans (HB5.out.mono (by omega))).trans (HBA.out.mono (by omega))⟩
end Go.Proofs.Ytojfeldafbabeaa
