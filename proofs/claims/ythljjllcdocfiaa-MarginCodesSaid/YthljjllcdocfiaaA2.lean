/- Walks: members, Intact, Margin, and the reference's. -/
import Derived.Test.YthljjllcdocfiaaA1
set_option linter.unusedVariables false
set_option linter.unusedSimpArgs false
set_option linter.unnecessarySimpa false
namespace Go.Proofs.Ythljjllcdocfiaa
open Go Go.RowKit Go.MapKept

/-- the call hands back a slice of its own that reads as L -/
def IsInts (w : World) (L : List Int) (e : Ending) (w' : World) : Prop := ∃ p cap, e = .returned (.slice p L.length cap) ∧ Ow eI 3 w w' (.slice p L.length cap) L

set_option maxHeartbeats 2000000 in
theorem members_any (g : Nat) (hg : g < 4611686018427387904) (w : World) : Calls Try.prog 31 #[.int .i64 g] w (IsInts w (memL g)) := by
  go_enter Try.func31, Try.ntmps31
  go_wp2_with fail
  go_loopw [3, 5] (fun x y wr => ∃ (k : Nat) (p : Option Addr) (c : Nat), k ≤ 63 ∧ y = .int .i64 k ∧ x = .slice p (memK g k).length c ∧ Hid (Ow eI 3 w wr (.slice p (memK g k).length c) (memK g k))) (fun _ y _ => 63 - (intOf y).toNat)
  case atStart => exact ⟨0, none, 0, by omega, rfl, rfl, Lib.hid (Ow.start 3 w)⟩
  case round =>
    rename World => wr
    obtain ⟨k, p, c, hk, rfl, rfl, HO⟩ := hrel
    by_cases hk3 : k < 63
    · have hb := bit_test (g : Int) k
      rw [bitI_nat] at hb
      have HL := Lib.hid (memK_len g k)
      have HS := Lib.hid (memK_succ g k)
      obtain ⟨y, hy⟩ : ∃ y, g.testBit k = y := ⟨_, rfl⟩
      rw [hy] at hb
      have HY := Lib.hid hy
      clear hy
      cases y with
      | false =>
        have HE := Lib.hid (show memK g (k + 1) = memK g k by rw [HS.out, HY.out]; simp)
        go_wp2_with fail
        go_roundw
        case rel => exact ⟨k + 1, p, c, by omega, by go_num, by rw [HE.out], Lib.hid (by rw [HE.out]; exact HO.out)⟩
        case measure => simp [intOf]; omega
      | true =>
        have HE := Lib.hid (show memK g (k + 1) = memK g k ++ [(k : Int)] by rw [HS.out, HY.out]; simp)
        have HE2 := Lib.hid (show (memK g (k + 1)).length = (memK g k).length + 1 by rw [HE.out]; simp)
        go_wp2_with (first
          | (at_builtin; refine wpList_push elt31 (E := eI) (x := (k : Int)) _ _ rfl rfl rfl rfl rfl HO.out (by have := HL.out; omega) ?_; intro p2 c2 w2 HO2 HG2))
        go_roundw
        case rel => exact ⟨k + 1, p2, c2, by omega, by go_num, by rw [HE2.out], Lib.hid (by rw [HE2.out, HE.out]; exact HO2.out)⟩
        case measure => simp [intOf]; omega
    · obtain rfl : k = 63 := by omega
      go_wp2_with fail
      go_ret
      exact ⟨p, c, rfl, HO.out⟩

set_option maxHeartbeats 2000000 in
theorem Intact_any (v : Value) (l : List Cp) (s : Int) (w : World) (h : Rd eC w v l) : Calls Try.prog 18 #[v, .int .i64 s] w (IsInts w (intactL l s)) := by
  obtain ⟨a, cap, rfl, hlen⟩ := h.open
  by_cases hs : s < 0 ∨ 4 ≤ s
  · have HE := Lib.hid (show intactL l s = [] by unfold intactL; rw [if_neg (by omega)])
    generalize l.length = n at *
    clear h
    rcases hs with hs | hs
    · go_enter Try.func18, Try.ntmps18
      go_wp2_with fail
      go_ret
      rw [HE.out]
      exact ⟨none, 0, rfl, Ow.start 3 w⟩
    · have q : ¬ s < 0 := by omega
      go_enter Try.func18, Try.ntmps18
      go_wp2_with fail
      go_ret
      rw [HE.out]
      exact ⟨none, 0, rfl, Ow.start 3 w⟩
  · obtain ⟨s, rfl⟩ : ∃ S : Nat, s = S := ⟨s.toNat, by omega⟩
    have hs4 : s < 4 := by omega
    have K := Lib.hid (frag_any _ l s w h hs4)
    have HE := Lib.hid (mem_frS l s hs4)
    have HG := Lib.hid (frS_lt s l)
    generalize l.length = n at *
    clear h hs
    go_enter Try.func18, Try.ntmps18
    go_wp2_with (first
      | (go_at_call 32; (with_reducible refine K.out.mono ?_); rintro e w1 ⟨rfl, hb1⟩; have HB1 := Lib.hid hb1; clear hb1)
      | (go_at_call 31; (with_reducible refine (members_any _ (by have := HG.out; omega) _).mono ?_); rw [HE.out]; rintro e w2 ⟨p, c, rfl, ho⟩; have HO := Lib.hid ho; clear ho))
    go_ret
    exact ⟨p, c, rfl, HO.out.down HB1.out⟩
end Go.Proofs.Ythljjllcdocfiaa
