/- The walk of Running. -/
import Derived.Test.YtgnmolleaengaaaGreatRb
set_option linter.unusedVariables false
set_option linter.unusedSimpArgs false
set_option linter.unnecessarySimpa false
namespace Go.Proofs.YtgnmolleaengaaaGreat
open Go Go.RowKit

theorem info39 : (Tryz.prog.info? 33).map (fun i => (i.zero, i.size, i.bytes)) = some (some (.agg #[.int .i64 0, .int .i64 0]), 2, 16) := by kernel_rfl
theorem elt42 : Elt 48 33 2 16 := by
  obtain ⟨i, hi, hz0, hz1, hz2⟩ := info_parts info39
  exact ⟨by kernel_rfl, ⟨i, _, hi, hz0, hz1, hz2, rfl⟩, by decide, by decide⟩
/-- keys of the entries that satisfy p -/
def keysP (p : En → Bool) (L : List En) : List Ky := (L.filter p).map En.key
def rawK (L : List En) (k : Nat) : List Ky := keysP En.run (L.take k)
theorem rawK_len (L : List En) (k : Nat) : (rawK L k).length ≤ k := by
  unfold rawK keysP
  rw [List.length_map]
  exact Nat.le_trans (List.length_filter_le _ _) (by rw [List.length_take]; omega)
theorem rawK_succ {L : List En} {k : Nat} {x : En} (h : L[k]? = some x) : rawK L (k + 1) = if x.run then rawK L k ++ [x.key] else rawK L k := by
  unfold rawK keysP
  rw [List.take_add_one, h]
  cases hr : x.run <;> simp [List.filter_append, hr]

/-- a sorted list of keys -/
def KeysPost (w : World) (L : List Ky) (e : Ending) (w' : World) : Prop := ∃ a c L', e = .returned (.slice a L'.length c) ∧ L'.Perm L ∧ L'.Pairwise (fun x y => ltK y x = false) ∧ Rt eK 33 w' (.slice a L'.length c) L' ∧ Below w.heap.size w w'

set_option maxRecDepth 20000 in
set_option maxHeartbeats 4000000 in
theorem running_as {B qb : Nat} {slots : Int} {L : List En} {w : World} (h : Qp B qb slots L w) (hl : L.length ≤ 1000) : Calls Tryz.prog 18 #[.pointer (some ⟨qb, 0, none⟩)] w (KeysPost w (keysP En.run L)) := by
  obtain ⟨a, cap, c1, hrd⟩ := h.list (by omega)
  obtain ⟨n, hn⟩ : ∃ n, L.length = n := ⟨_, rfl⟩
  have HN := Lib.hid hn
  rw [hn] at hl hrd c1
  have HR := Lib.hid hrd
  clear h hn hrd
  go_enter Tryz.func18, Tryz.ntmps18
  go_wp2_with fail
  go_loopw [3, 13] (fun x y wr => ∃ (k : Nat) (p : Option Addr) (c : Nat), k ≤ n ∧ y = .int .i64 k ∧ x = .slice p (rawK L k).length c ∧ Hid (Ow eK 33 w wr (.slice p (rawK L k).length c) (rawK L k))) (fun _ y _ => n - (intOf y).toNat)
  case atStart => exact ⟨0, none, 0, by omega, rfl, rfl, Lib.hid (Ow.start 33 w)⟩
  case round =>
    rename World => wr
    obtain ⟨k, p, c, hk, rfl, rfl, HO⟩ := hrel
    by_cases hkn : k < n
    · obtain ⟨x, hx⟩ : ∃ x, L[k]? = some x := ⟨L[k]'(by have := HN.out; omega), by simp⟩
      obtain ⟨g, off, rfl, hg, hcell⟩ := HR.out.entry hx
      obtain ⟨b0, b1, b2, b3, b4, b5, b6, b7, b8⟩ := hcell _ HO.out.below
      have HL := Lib.hid (rawK_len L k)
      have HS := Lib.hid (rawK_succ hx)
      have HB := Lib.hid (Holds.new wr (ec x) 76)
      have HBB := Lib.hid (below_alloc wr (.cells (ec x) 76))
      clear hx hcell hg
      cases hrun : x.run with
      | true =>
        rw [hrun] at HS b7
        have HS2 := Lib.hid (show rawK L (k + 1) = rawK L k ++ [x.key] by rw [HS.out]; simp)
        have HE2 := Lib.hid (show (rawK L (k + 1)).length = (rawK L k).length + 1 by rw [HS2.out]; simp)
        obtain ⟨⟨a1, a2, a3, a4, n1, d1⟩, na, nc, da, dc, ru, se⟩ := x
        obtain rfl : ru = true := hrun
        clear HS
        go_wp2_with (first
          | (go_at_call 34; (with_reducible refine (key_as ⟨a1, a2, a3, a4, n1, d1⟩ _ _ _ _ _ _ _).mono ?_); rintro e w2 ⟨rfl, hb⟩; have HO2 := Lib.hid (HO.out.grow (HBB.out.trans (hb.mono HBB.out.size))); clear hb)
          | (at_builtin; refine wpList_push elt42 (E := eK) (x := (a1, a2)) _ _ rfl rfl rfl rfl rfl HO2.out (by have := HL.out; omega) ?_; intro p3 c3 w3 HO3 HG3))
        go_roundw
        case rel => exact ⟨k + 1, p3, c3, by omega, by go_num, by rw [HE2.out], Lib.hid (by rw [HE2.out, HS2.out]; exact HO3.out)⟩
        case measure => simp [intOf]; omega
      | false =>
        rw [hrun] at HS b7
        have HS2 := Lib.hid (show rawK L (k + 1) = rawK L k by rw [HS.out]; simp)
        obtain ⟨⟨a1, a2, a3, a4, n1, d1⟩, na, nc, da, dc, ru, se⟩ := x
        obtain rfl : ru = false := hrun
        clear HS
        go_wp2_with fail
        go_roundw
        case rel => exact ⟨k + 1, p, c, by omega, by go_num, by rw [HS2.out], Lib.hid (by rw [HS2.out]; exact HO.out.grow HBB.out)⟩
        case measure => simp [intOf]; omega
    · obtain rfl : k = n := by omega
      have HF := Lib.hid (show rawK L k = keysP En.run L by unfold rawK; rw [← HN.out, List.take_length])
      have HL := Lib.hid (rawK_len L k)
      rw [HF.out] at HO HL ⊢
      have KS := Lib.hid (sorted_as HO.out (by have := HL.out; omega))
      go_wp2_with (go_at_call 38; (with_reducible refine KS.out.mono ?_); rintro e w2 ⟨rfl, ⟨L', hp, hs, hr⟩, hg⟩; have HP := Lib.hid hp; have HSS := Lib.hid hs; have HR2 := Lib.hid hr; have HG := Lib.hid hg; clear hp hs hr hg)
      go_ret
      refine ⟨p, c, L', by rw [HP.out.length_eq]; rfl, HP.out, HSS.out, by rw [HP.out.length_eq]; exact HR2.out, ?_⟩
      exact grown_below HO.out.below HG.out (fun k hk => (HO.out.row.lt k hk).1)
end Go.Proofs.YtgnmolleaengaaaGreat
