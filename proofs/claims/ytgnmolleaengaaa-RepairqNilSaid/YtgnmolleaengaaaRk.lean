/- The walk of Seal. -/
import Derived.Test.YtgnmolleaengaaaRj
set_option linter.unusedVariables false
set_option linter.unusedSimpArgs false
set_option linter.unnecessarySimpa false
namespace Go.Proofs.Ytgnmolleaengaaa
open Go Go.RowKit

set_option maxRecDepth 20000 in
theorem held_no {B qb : Nat} {slots : Int} {L : List En} {w : World} (h : Qp B qb slots L w) (hl : L.length ≤ 1000) {k : Ky} (hi : idxF k L = -1) : Calls Try.prog 14 #[.pointer (some ⟨qb, 0, none⟩), kv k] w fun e w' => e = .returned (.int .i64 110) ∧ Below w.heap.size w w' := by
  have HB := Lib.hid (below_alloc w (.cells #[.int .i64 k.1, .int .i64 k.2] 39))
  have HF := Lib.hid (find_as (h.keep HB.out) hl k hi)
  clear h
  obtain ⟨k1, k2⟩ := k
  go_enter Try.func14, Try.ntmps14
  go_wp2_with (go_at_call 18; (with_reducible refine HF.out.mono ?_); rintro e w1 ⟨rfl, hb⟩; have HB1 := Lib.hid (HB.out.trans (hb.mono HB.out.size)); clear hb)
  go_ret
  exact ⟨rfl, HB1.out⟩

set_option maxRecDepth 20000 in
set_option maxHeartbeats 1000000 in
theorem held_off {B qb : Nat} {slots : Int} {L : List En} {w : World} (h : Qp B qb slots L w) (hl : L.length ≤ 1000) {k : Ky} {i : Nat} (hi : idxF k L = (i : Int)) {x : En} (hx : L[i]? = some x) (hr : x.run = false) : Calls Try.prog 14 #[.pointer (some ⟨qb, 0, none⟩), kv k] w fun e w' => e = .returned (.int .i64 110) ∧ Below w.heap.size w w' := by
  have hil : i < L.length := (List.getElem?_eq_some_iff.1 hx).1
  have HB := Lib.hid (below_alloc w (.cells #[.int .i64 k.1, .int .i64 k.2] 39))
  have HF := Lib.hid (find_as (h.keep HB.out) hl k hi)
  obtain ⟨n, hn⟩ : ∃ n, L.length = n := ⟨_, rfl⟩
  obtain ⟨g, cap, hqa⟩ := h.at hn (by omega)
  have HQ0 := Lib.hid (hqa.keep HB.out)
  have HX := Lib.hid hx
  have HR := Lib.hid (show ((ec x).toList)[7]? = some (.bool false) by rw [← hr]; rfl)
  have hneg : decide ((i : Int) < 0) = false := by simp
  have hc := hqa.caps
  have hc1 := hc.1
  have hc2 := hc.2
  rw [hn] at hl hil
  clear h hqa hx hi hn hr hc
  obtain ⟨k1, k2⟩ := k
  go_enter Try.func14, Try.ntmps14
  go_wp2_with (go_at_call 18; (with_reducible refine HF.out.mono ?_); rintro e w1 ⟨rfl, hb⟩; have HQ := Lib.hid (HQ0.out.keep hb); have HB1 := Lib.hid (HB.out.trans (hb.mono HB.out.size)); have c1 := HQ.out.c1; have c7 := HQ.out.cell HX.out HR.out; clear hb)
  go_ret
  exact ⟨rfl, HB1.out⟩

set_option maxRecDepth 20000 in
set_option maxHeartbeats 1000000 in
theorem held_on {B qb : Nat} {slots : Int} {L : List En} {w : World} (h : Qp B qb slots L w) (hl : L.length ≤ 1000) {k : Ky} {i : Nat} (hi : idxF k L = (i : Int)) {x : En} (hx : L[i]? = some x) (hr : x.run = true) : Calls Try.prog 14 #[.pointer (some ⟨qb, 0, none⟩), kv k] w (QueuePost B qb slots (L.set i { x with held := true }) 0 w) := by
  have hil : i < L.length := (List.getElem?_eq_some_iff.1 hx).1
  have HB := Lib.hid (below_alloc w (.cells #[.int .i64 k.1, .int .i64 k.2] 39))
  have HF := Lib.hid (find_as (h.keep HB.out) hl k hi)
  obtain ⟨n, hn⟩ : ∃ n, L.length = n := ⟨_, rfl⟩
  obtain ⟨g, cap, hqa⟩ := h.at hn (by omega)
  have HQ0 := Lib.hid (hqa.keep HB.out)
  have HX := Lib.hid hx
  have HR := Lib.hid (show ((ec x).toList)[7]? = some (.bool true) by rw [← hr]; rfl)
  have hneg : decide ((i : Int) < 0) = false := by simp
  have hc := hqa.caps
  have hc1 := hc.1
  have hc2 := hc.2
  rw [hn] at hl hil
  clear h hqa hx hi hn hr hc
  obtain ⟨k1, k2⟩ := k
  unfold QueuePost
  go_enter Try.func14, Try.ntmps14
  go_wp2_with (go_at_call 18; (with_reducible refine HF.out.mono ?_); rintro e w1 ⟨rfl, hb⟩; have HQ := Lib.hid (HQ0.out.keep hb); have HT1 := Lib.hid ((Qt.of_below HB.out B).keep hb); have c1 := HQ.out.c1; have c7 := HQ.out.cell HX.out HR.out; have c8 := HQ.out.cell (j := 8) HX.out rfl; have cf := HQ.out.cold (i * 9 + 8); clear hb)
  go_ret
  exact ⟨rfl, (HQ.out.setHeld HX.out).q, HT1.out.set (.inl HQ.out.ty) HQ.out.base _ _⟩
end Go.Proofs.Ytgnmolleaengaaa
