/- Walks: the reference's Intact; Margin. -/
import Derived.Test.YthljjllcdocfiaaA2
set_option linter.unusedVariables false
set_option linter.unusedSimpArgs false
set_option linter.unnecessarySimpa false
namespace Go.Proofs.Ythljjllcdocfiaa
open Go Go.RowKit Go.MapKept

def intK (l : List Cp) (s f : Nat) : List Int := ((List.range f).filter (good l s)).map fun i : Nat => (i : Int)
theorem intK_succ (l : List Cp) (s f : Nat) : intK l s (f + 1) = intK l s f ++ if good l s f then [(f : Int)] else [] := by
  unfold intK
  rw [List.range_succ, List.filter_append, List.map_append]
  cases h : good l s f <;> simp [h]
theorem intK_len (l : List Cp) (s f : Nat) : (intK l s f).length ≤ f := by
  unfold intK
  rw [List.length_map]
  have := List.length_filter_le (good l s) (List.range f)
  simpa using this
def goodK (l : List Cp) (s f k : Nat) : Bool := (l.take k).any fun c => c.1 == (f : Int) && bitI c.2.2 s
theorem goodK_succ {l : List Cp} {s f k : Nat} {c : Cp} (h : l[k]? = some c) : goodK l s f (k + 1) = (goodK l s f k || (c.1 == (f : Int) && bitI c.2.2 s)) := by
  unfold goodK
  rw [List.take_add_one, h]
  simp

set_option maxHeartbeats 4000000 in
theorem RIntact_in (v : Value) (l : List Cp) (s : Nat) (w : World) (h : Rd eC w v l) (hs : s < 4) : Calls Try.prog 19 #[v, .int .i64 s] w (IsInts w (intK l s 8)) := by
  obtain ⟨a, cap, rfl, hlen⟩ := h.open
  have H := Lib.hid h
  obtain ⟨n, hn⟩ : ∃ n, l.length = n := ⟨_, rfl⟩
  have HN := Lib.hid hn
  rw [hn] at hlen ⊢
  have q1 : decide ((s : Int) < 4) = true := by simp; omega
  clear h hn
  go_enter Try.func19, Try.ntmps19
  go_wp2_with fail
  go_loopw [5, 6] (fun x y wr => ∃ (f : Nat) (p : Option Addr) (c : Nat), f ≤ 8 ∧ y = .int .i64 f ∧ x = .slice p (intK l s f).length c ∧ Hid (Ow eI 3 w wr (.slice p (intK l s f).length c) (intK l s f))) (fun _ y _ => 8 - (intOf y).toNat)
  case atStart => exact ⟨0, none, 0, by omega, rfl, rfl, Lib.hid (Ow.start 3 w)⟩
  case round =>
    rename World => wr
    obtain ⟨f, p, c, hf, rfl, rfl, HO⟩ := hrel
    by_cases hf8 : f < 8
    · go_wp2_with fail
      go_loopw [7, 8] (fun x y wq => ∃ k : Nat, k ≤ n ∧ y = .int .i64 k ∧ x = .bool (goodK l s f k) ∧ wr = wq) (fun _ y _ => n - (intOf y).toNat)
      case atStart => exact ⟨0, by omega, rfl, rfl, rfl⟩
      case round =>
        rename World => wq
        obtain ⟨k, hk, rfl, rfl, rfl⟩ := hrel
        by_cases hkn : k < n
        · obtain ⟨c, hc⟩ : ∃ c, l[k]? = some c := ⟨l[k]'(by rw [HN.out]; exact hkn), by simp⟩
          have HR := H.out.below HO.out.below (Nat.le_refl _)
          rw [HN.out] at HR
          obtain ⟨b, off, rfl, hb, c0, c1, c2⟩ := HR.cp hc
          have HG := Lib.hid (goodK_succ (s := s) (f := f) hc)
          obtain ⟨x, d, t⟩ := c
          simp only at c0 c1 c2
          have hb2 := bit_test t s
          obtain ⟨y, hy⟩ : ∃ y, bitI t s = y := ⟨_, rfl⟩
          obtain ⟨z, hz⟩ : ∃ z, (x == (f : Int)) = z := ⟨_, rfl⟩
          obtain ⟨g, hg⟩ : ∃ g, goodK l s f k = g := ⟨_, rfl⟩
          rw [hy] at hb2
          rw [hg]
          have HY := Lib.hid hy
          have HZ := Lib.hid hz
          have HGG := Lib.hid hg
          clear hc HR hy hg
          cases g with
          | true =>
            clear hz
            go_wp2_with fail
            go_roundw
            case rel => exact ⟨k + 1, by omega, by go_num, by rw [HG.out, HGG.out]; simp, by trivial⟩
            case measure => simp [intOf]; omega
          | false =>
            cases z with
            | false =>
              go_wp2_with fail
              go_roundw
              case rel => exact ⟨k + 1, by omega, by go_num, by rw [HG.out, HGG.out]; simp only [HZ.out]; simp, by trivial⟩
              case measure => simp [intOf]; omega
            | true =>
              cases y with
              | false =>
                go_wp2_with fail
                go_roundw
                case rel => exact ⟨k + 1, by omega, by go_num, by rw [HG.out, HGG.out]; simp only [HZ.out, HY.out]; simp, by trivial⟩
                case measure => simp [intOf]; omega
              | true =>
                go_wp2_with fail
                go_roundw
                case rel => exact ⟨k + 1, by omega, by go_num, by rw [HG.out, HGG.out]; simp only [HZ.out, HY.out]; simp, by trivial⟩
                case measure => simp [intOf]; omega
        · obtain rfl : k = n := by omega
          have hg : goodK l s f k = good l s f := by unfold goodK good; rw [← HN.out, List.take_length]
          rw [hg]
          have HL := Lib.hid (intK_len l s f)
          have HS := Lib.hid (intK_succ l s f)
          obtain ⟨y, hy⟩ : ∃ y, good l s f = y := ⟨_, rfl⟩
          rw [hy]
          have HY := Lib.hid hy
          clear hg hy
          cases y with
          | false =>
            have HE := Lib.hid (show intK l s (f + 1) = intK l s f by rw [HS.out, HY.out]; simp)
            go_wp2_with fail
            go_roundw
            case rel => exact ⟨f + 1, p, c, by omega, by go_num, by rw [HE.out], Lib.hid (by rw [HE.out]; exact HO.out)⟩
            case measure => simp [intOf]; omega
          | true =>
            have HE := Lib.hid (show intK l s (f + 1) = intK l s f ++ [(f : Int)] by rw [HS.out, HY.out]; simp)
            have HE2 := Lib.hid (show (intK l s (f + 1)).length = (intK l s f).length + 1 by rw [HE.out]; simp)
            go_wp2_with (first
              | (at_builtin; refine wpList_push elt31 (E := eI) (x := (f : Int)) _ _ rfl rfl rfl rfl rfl HO.out (by have := HL.out; omega) ?_; intro p2 c2 w2 HO2 HG2))
            go_roundw
            case rel => exact ⟨f + 1, p2, c2, by omega, by go_num, by rw [HE2.out], Lib.hid (by rw [HE2.out, HE.out]; exact HO2.out)⟩
            case measure => simp [intOf]; omega
    · obtain rfl : f = 8 := by omega
      go_wp2_with fail
      go_ret
      exact ⟨p, c, rfl, HO.out⟩

set_option maxHeartbeats 2000000 in
theorem RIntact_any (v : Value) (l : List Cp) (s : Int) (w : World) (h : Rd eC w v l) : Calls Try.prog 19 #[v, .int .i64 s] w (IsInts w (intactL l s)) := by
  by_cases hs : 0 ≤ s ∧ s < 4
  · obtain ⟨s, rfl⟩ : ∃ S : Nat, s = S := ⟨s.toNat, by omega⟩
    have := RIntact_in v l s w h (by omega)
    have e : intactL l (s : Int) = intK l s 8 := by unfold intactL; rw [if_pos hs]; rfl
    rw [e]
    exact this
  · obtain ⟨a, cap, rfl, hlen⟩ := h.open
    have HE := Lib.hid (show intactL l s = [] by unfold intactL; rw [if_neg hs])
    generalize l.length = n at *
    clear h
    rcases (by omega : s < 0 ∨ (0 ≤ s ∧ 4 ≤ s)) with hs | ⟨hs0, hs⟩
    · go_enter Try.func19, Try.ntmps19
      go_wp2_with fail
      refine wp_loop_rounds 1 ?_
      repeat (rw [rounds_succ]; go_wp2_with fail)
      go_ret
      rw [HE.out]
      exact ⟨none, 0, rfl, Ow.start 3 w⟩
    · go_enter Try.func19, Try.ntmps19
      go_wp2_with fail
      refine wp_loop_rounds 1 ?_
      repeat (rw [rounds_succ]; go_wp2_with fail)
      go_ret
      rw [HE.out]
      exact ⟨none, 0, rfl, Ow.start 3 w⟩
end Go.Proofs.Ythljjllcdocfiaa
