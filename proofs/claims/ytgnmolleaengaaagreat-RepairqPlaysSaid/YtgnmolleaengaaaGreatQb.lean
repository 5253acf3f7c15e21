/- The walks of slices.IndexFunc and find. -/
import Derived.Test.YtgnmolleaengaaaGreatQa
set_option linter.unusedVariables false
set_option linter.unusedSimpArgs false
set_option linter.unnecessarySimpa false
namespace Go.Proofs.YtgnmolleaengaaaGreat
open Go Go.RowKit

def keyB (k : Ky) (x : En) : Bool := decide (x.key = k)
def idxF (k : Ky) (L : List En) : Int := match L.findIdx? (keyB k) with
  | some i => i
  | none => -1
theorem idxF_some {k : Ky} {L : List En} {i : Nat} {x : En} (hl : L[i]? = some x) (hp : keyB k x = true) (hb : ∀ (j : Nat) (y : En), j < i → L[j]? = some y → keyB k y = false) : idxF k L = i := by
  unfold idxF
  obtain ⟨hk, rfl⟩ := List.getElem?_eq_some_iff.1 hl
  rw [List.findIdx?_eq_some_iff_getElem.2 ⟨hk, hp, fun j hj => by rw [hb j L[j] hj (by simp)]; simp⟩]
theorem idxF_none {k : Ky} {L : List En} (hb : ∀ x ∈ L, keyB k x = false) : idxF k L = -1 := by
  unfold idxF
  rw [List.findIdx?_eq_none_iff.2 hb]

set_option maxRecDepth 20000 in
set_option maxHeartbeats 2000000 in
theorem index_as {w : World} {a : Option Addr} {n cap : Nat} {L : List En} {b : Nat} {k : Ky} (h : Rd eE w (.slice a n cap) L) (hn : n ≤ 1000) (c0 : w.cell? ⟨b, 0, none⟩ = some (.int .i64 k.1)) (c1 : w.cell? ⟨b, 1, none⟩ = some (.int .i64 k.2)) (hb : b < w.heap.size) {r : Int} (hr : idxF k L = r) :
    Calls Tryz.prog 58 #[.slice a n cap, .func (.func 59) #[] #[.pointer (some ⟨b, 0, none⟩)]] w fun e w' => e = .returned (.int .i64 r) ∧ Below w.heap.size w w' := by
  have HR := Lib.hid h
  have HN := Lib.hid h.caps.2.2
  have HRR := Lib.hid hr
  have C0 := Lib.hid c0
  have C1 := Lib.hid c1
  have HBL := Lib.hid hb
  clear h c0 c1 hb hr
  go_enter Tryz.func58, Tryz.ntmps58
  go_wp2_with fail
  go_loopw [8] (fun s wr => ∃ i : Nat, s = .int .i64 i ∧ i ≤ n ∧ Hid (Below w.heap.size w wr) ∧ Hid (∀ (j : Nat) (y : En), j < i → L[j]? = some y → keyB k y = false)) (fun s _ => n - (intOf s).toNat)
  case atStart => exact ⟨0, rfl, Nat.zero_le _, Lib.hid (Below.refl _ _), Lib.hid fun j y hj => by omega⟩
  case round =>
    rename World => wr
    obtain ⟨i, rfl, hi, HB, HP⟩ := hrel
    by_cases hin : i < n
    · obtain ⟨x, hx⟩ : ∃ x, L[i]? = some x := ⟨L[i]'(by have := HN.out; omega), by simp⟩
      have HX := Lib.hid hx
      obtain ⟨g, off, rfl, hg, hcell⟩ := HR.out.entry hx
      obtain ⟨b0, b1, b2, b3, b4, b5, b6, b7, b8⟩ := hcell _ HB.out
      have d0 := (HB.out.cell (p := ⟨b, 0, none⟩) HBL.out).trans C0.out
      have d1 := (HB.out.cell (p := ⟨b, 1, none⟩) HBL.out).trans C1.out
      have hbw : b < wr.heap.size := Nat.lt_of_lt_of_le HBL.out HB.out.size
      cases hq : decide (x.key = k) with
      | true =>
        have HK := Lib.hid (same_key d0 d1 hbw x hq)
        have HQ := Lib.hid (show keyB k x = true from hq)
        clear hx hcell hq d0 d1
        go_wp2_with (go_at_call 59; (with_reducible refine HK.out.mono ?_); rintro e w2 ⟨rfl, hb2⟩; have HB2 := Lib.hid (HB.out.trans (hb2.mono HB.out.size)); clear hb2)
        go_ret
        exact ⟨by rw [← HRR.out, idxF_some HX.out HQ.out HP.out]; rfl, HB2.out⟩
      | false =>
        have HK := Lib.hid (same_key d0 d1 hbw x hq)
        have HQ := Lib.hid (show keyB k x = false from hq)
        clear hx hcell hq d0 d1
        go_wp2_with (go_at_call 59; (with_reducible refine HK.out.mono ?_); rintro e w2 ⟨rfl, hb2⟩; have HB2 := Lib.hid (HB.out.trans (hb2.mono HB.out.size)); clear hb2)
        go_roundw
        case rel =>
          refine ⟨i + 1, by go_num, by omega, HB2, Lib.hid fun j y hj hy => ?_⟩
          by_cases e : j < i
          · exact HP.out j y e hy
          · obtain rfl : j = i := by omega
            have := HX.out
            rw [hy] at this
            cases this
            exact HQ.out
        case measure => simp [intOf]; omega
    · obtain rfl : i = n := by omega
      go_wp2_with fail
      go_ret
      exact ⟨by rw [← HRR.out, idxF_none (fun y hy => by obtain ⟨j, hj, rfl⟩ := List.getElem_of_mem hy; exact HP.out j _ (by have := HN.out; omega) (by simp))]; rfl, HB.out⟩

set_option maxRecDepth 20000 in
set_option maxHeartbeats 1000000 in
theorem find_as {B qb : Nat} {slots : Int} {L : List En} {w : World} (h : Qp B qb slots L w) (hl : L.length ≤ 1000) (k : Ky) {r : Int} (hr : idxF k L = r) :
    Calls Tryz.prog 33 #[.pointer (some ⟨qb, 0, none⟩), kv k] w fun e w' => e = .returned (.int .i64 r) ∧ Below w.heap.size w w' := by
  have hba := below_alloc w (.cells #[.int .i64 k.1, .int .i64 k.2] 33)
  have HBA := Lib.hid hba
  have h2 := h.keep hba
  obtain ⟨a, cap, c1, hrd⟩ := h2.list (by omega)
  have HRD := Lib.hid hrd
  have HL := Lib.hid hl
  have HR := Lib.hid hr
  obtain ⟨k1, k2⟩ := k
  have hH := Holds.new w #[.int .i64 k1, .int .i64 k2] 33
  have K0 := Lib.hid (hH.cell 0 _ rfl)
  have K1 := Lib.hid (hH.cell 1 _ rfl)
  have KL := Lib.hid hH.lt
  clear h h2 hrd hba hr hH
  go_enter Tryz.func33, Tryz.ntmps33
  go_wp2_with (go_at_call 58; (with_reducible refine (index_as (k := (k1, k2)) HRD.out HL.out K0.out K1.out KL.out HR.out).mono ?_); rintro e w2 ⟨rfl, hb2⟩; have HB2 := Lib.hid (HBA.out.trans (hb2.mono HBA.out.size)); clear hb2)
  go_ret
  exact ⟨rfl, HB2.out⟩
end Go.Proofs.YtgnmolleaengaaaGreat
