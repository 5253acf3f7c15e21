/- Jobs and Running of a queue of jobs of any risk. -/
import Derived.Test.YtgnmolleaengaaaGreatVb
set_option linter.unusedVariables false
set_option linter.unusedSimpArgs false
set_option linter.unnecessarySimpa false
namespace Go.Proofs.YtgnmolleaengaaaGreat
namespace V
open Go Go.RowKit

def eJ :  Enc En := ⟨7, fun x => (jc x.j x.num x.den).toList, fun _ => rfl, by decide, fun x v hv => by simp at hv; rcases hv with rfl | rfl | rfl | rfl | rfl | rfl | rfl <;> rfl⟩
/-- M is a row of jobs equal to L's -/
structure JLike (w : World) (M L : List En) : Prop where
  eq : M.map (·.j) = L.map (·.j)
  frac : ∀ x ∈ M, Ru w x.num x.j.n ∧ Ru w x.den x.j.d
theorem JLike.keep {w w' : World} {M L : List En} (h : JLike w M L) (hb : Below w.heap.size w w') : JLike w' M L := ⟨h.eq, fun x hx => ⟨(h.frac x hx).1.keep hb, (h.frac x hx).2.keep hb⟩⟩
theorem JLike.grown {w w' : World} {M L : List En} {u : Value} {B s n : Nat} {xs : List Value} (h : JLike w M L) (ho : w.ownsRow B 29 s u n xs) (hg : w.grownBy w' u.ownBlock) : JLike w' M L :=
  ⟨h.eq, fun x hx => ⟨(h.frac x hx).1.grown ho (by decide) hg, (h.frac x hx).2.grown ho (by decide) hg⟩⟩
def JobsPost (w : World) (L : List En) (e : Ending) (w' : World) : Prop := ∃ a c M, e = .returned (.slice a L.length c) ∧ Rt eJ 29 w' (.slice a L.length c) M ∧ JLike w' M L ∧ Below w.heap.size w w'

set_option maxRecDepth 20000 in
set_option maxHeartbeats 4000000 in
theorem jobs_as {B qb : Nat} {slots : Int} {L : List En} {w : World} (h : Qp B qb slots L w) (hl : L.length ≤ 1000) : Calls Tryz.prog 17 #[.pointer (some ⟨qb, 0, none⟩)] w (JobsPost w L) := by
  obtain ⟨a, cap, c1, hrd⟩ := h.list (by omega)
  obtain ⟨n, hn⟩ : ∃ n, L.length = n := ⟨_, rfl⟩
  have HN := Lib.hid hn
  unfold JobsPost
  rw [hn] at hl hrd c1 ⊢
  have HR := Lib.hid hrd
  have HF := Lib.hid h.frac
  have HOK := Lib.hid h.ok
  clear h hn hrd
  go_enter Tryz.func17, Tryz.ntmps17
  go_wp2_with fail
  go_loopw [3, 13] (fun x y wr => ∃ (k : Nat) (p : Option Addr) (c : Nat) (M : List En), k ≤ n ∧ y = .int .i64 k ∧ x = .slice p k c ∧ Hid (M.length = k) ∧ Hid (Ow eJ 29 w wr (.slice p k c) M) ∧ Hid (JLike wr M (L.take k))) (fun _ y _ => n - (intOf y).toNat)
  case atStart => exact ⟨0, none, 0, [], by omega, rfl, rfl, Lib.hid rfl, Lib.hid (Ow.start 29 w), Lib.hid ⟨rfl, fun x hx => by cases hx⟩⟩
  case round =>
    rename World => wr
    obtain ⟨k, p, c, M, hk, rfl, rfl, HML, HO, HJ⟩ := hrel
    by_cases hkn : k < n
    · obtain ⟨x, hx⟩ : ∃ x, L[k]? = some x := ⟨L[k]'(by have := HN.out; omega), by simp⟩
      obtain ⟨g, off, rfl, hg, hcell⟩ := HR.out.entryV hx
      obtain ⟨b0, b1, b2, b3, b4, b5, b6, b7, b8⟩ := hcell _ HO.out.below
      have HBB := Lib.hid (below_alloc wr (.cells (ec x) 76))
      have hf := HF.out x (List.mem_of_getElem? hx)
      have ho := HOK.out x (List.mem_of_getElem? hx)
      have KC := Lib.hid (clone_as ho ((hf.1.keep (HO.out.below.trans (HBB.out.mono HO.out.below.size))).rd) ((hf.2.keep (HO.out.below.trans (HBB.out.mono HO.out.below.size))).rd))
      have HX := Lib.hid (show ∀ y : En, y.j = x.j → (M ++ [y]).map (·.j) = (L.take (k + 1)).map (·.j) by
        intro y hy
        rw [List.take_add_one, hx, List.map_append, List.map_append, HJ.out.eq]
        simp [hy])
      clear hx hcell hg hf ho
      obtain ⟨⟨a1, a2, a3, a4, ng, n1, d1⟩, na, nc, da, dc, ru, se⟩ := x
      go_wp2_with (first
        | (go_at_call 35; (with_reducible refine KC.out.mono ?_); rintro e w2 ⟨xa, xc, ya, yc, rfl, r1, r2, hb⟩; have HO2 := Lib.hid (HO.out.grow (HBB.out.trans (hb.mono HBB.out.size))); have HJ2 := Lib.hid (HJ.out.keep (HBB.out.trans (hb.mono HBB.out.size))); have R1 := Lib.hid r1; have R2 := Lib.hid r2; clear hb r1 r2)
        | (at_builtin; refine wpList_push elt46 (E := eJ) (x := ⟨⟨a1, a2, a3, a4, ng, n1, d1⟩, xa, xc, ya, yc, false, false⟩) _ _ rfl rfl rfl rfl rfl HO2.out (by have := HML.out; omega) ?_; intro p3 c3 w3 HO3 HG3; rw [HML.out] at HO3 HG3 ⊢))
      go_roundw
      case rel =>
        refine ⟨k + 1, p3, c3, M ++ [⟨⟨a1, a2, a3, a4, ng, n1, d1⟩, xa, xc, ya, yc, false, false⟩], by omega, by go_num, rfl, Lib.hid (by simp [HML.out]), HO3, Lib.hid ⟨HX.out _ rfl, fun y hy => ?_⟩⟩
        have hbx := below_alloc w2 (.cells (eJ.f ⟨⟨a1, a2, a3, a4, ng, n1, d1⟩, xa, xc, ya, yc, false, false⟩).toArray 29)
        have hor := (HO2.out.grow hbx).row
        rcases List.mem_append.1 hy with hy | hy
        · exact ⟨((HJ2.out.frac y hy).1.keep hbx).grown hor (by decide) HG3.out.by_, ((HJ2.out.frac y hy).2.keep hbx).grown hor (by decide) HG3.out.by_⟩
        · rw [List.mem_singleton.1 hy]
          exact ⟨(R1.out.keep hbx).grown hor (by decide) HG3.out.by_, (R2.out.keep hbx).grown hor (by decide) HG3.out.by_⟩
      case measure => simp [intOf]; omega
    · obtain rfl : k = n := by omega
      go_wp2_with fail
      go_ret
      have hrd := Rt.of_ow HO.out (by have := HML.out; omega)
      have hj := HJ.out
      rw [← HN.out, List.take_length] at hj
      exact ⟨p, c, M, rfl, hrd, hj, HO.out.below⟩
/-- keys of the entries that satisfy p -/
def keysP (p : En → Bool) (L : List En) : List Ky := (L.filter p).map En.key
def rawK (L : List En) (k : Nat) : List Ky := keysP En.run (L.take k)
theorem rawK_len (L : List En) (k : Nat) : (rawK L k).length ≤ k := by
  unfold rawK keysP
  rw [List.length_map]
  exact Nat.le_trans (List.length_filter_le _ _) (by rw [List.length_take]; omega)
theorem rawK_succ {L : List En} {k : Nat} {x : En} (h : L[k]? = some x) : rawK L (k + 1) = if x.run then rawK L k ++ [x.key] else rawK L k := by
  unfold rawK keysP
  rw [List.take_add_one, h]
  cases hr : x.run <;> simp [List.filter_append, hr]

set_option maxRecDepth 20000 in
set_option maxHeartbeats 4000000 in
theorem running_as {B qb : Nat} {slots : Int} {L : List En} {w : World} (h : Qp B qb slots L w) (hl : L.length ≤ 1000) : Calls Tryz.prog 18 #[.pointer (some ⟨qb, 0, none⟩)] w (KeysPost w (keysP En.run L)) := by
  obtain ⟨a, cap, c1, hrd⟩ := h.list (by omega)
  obtain ⟨n, hn⟩ : ∃ n, L.length = n := ⟨_, rfl⟩
  have HN := Lib.hid hn
  rw [hn] at hl hrd c1
  have HR := Lib.hid hrd
  clear h hn hrd
  go_enter Tryz.func18, Tryz.ntmps18
  go_wp2_with fail
  go_loopw [3, 13] (fun x y wr => ∃ (k : Nat) (p : Option Addr) (c : Nat), k ≤ n ∧ y = .int .i64 k ∧ x = .slice p (rawK L k).length c ∧ Hid (Ow eK 33 w wr (.slice p (rawK L k).length c) (rawK L k))) (fun _ y _ => n - (intOf y).toNat)
  case atStart => exact ⟨0, none, 0, by omega, rfl, rfl, Lib.hid (Ow.start 33 w)⟩
  case round =>
    rename World => wr
    obtain ⟨k, p, c, hk, rfl, rfl, HO⟩ := hrel
    by_cases hkn : k < n
    · obtain ⟨x, hx⟩ : ∃ x, L[k]? = some x := ⟨L[k]'(by have := HN.out; omega), by simp⟩
      obtain ⟨g, off, rfl, hg, hcell⟩ := HR.out.entryV hx
      obtain ⟨b0, b1, b2, b3, b4, b5, b6, b7, b8⟩ := hcell _ HO.out.below
      have HL := Lib.hid (rawK_len L k)
      have HS := Lib.hid (rawK_succ hx)
      have HB := Lib.hid (Holds.new wr (ec x) 76)
      have HBB := Lib.hid (below_alloc wr (.cells (ec x) 76))
      clear hx hcell hg
      cases hrun : x.run with
      | true =>
        rw [hrun] at HS b7
        have HS2 := Lib.hid (show rawK L (k + 1) = rawK L k ++ [x.key] by rw [HS.out]; simp)
        have HE2 := Lib.hid (show (rawK L (k + 1)).length = (rawK L k).length + 1 by rw [HS2.out]; simp)
        obtain ⟨⟨a1, a2, a3, a4, ng, n1, d1⟩, na, nc, da, dc, ru, se⟩ := x
        obtain rfl : ru = true := hrun
        clear HS
        go_wp2_with (first
          | (go_at_call 34; (with_reducible refine (key_as ⟨a1, a2, a3, a4, ng, n1, d1⟩ _ _ _ _ _ _ _).mono ?_); rintro e w2 ⟨rfl, hb⟩; have HO2 := Lib.hid (HO.out.grow (HBB.out.trans (hb.mono HBB.out.size))); clear hb)
          | (at_builtin; refine wpList_push elt42 (E := eK) (x := (a1, a2)) _ _ rfl rfl rfl rfl rfl HO2.out (by have := HL.out; omega) ?_; intro p3 c3 w3 HO3 HG3))
        go_roundw
        case rel => exact ⟨k + 1, p3, c3, by omega, by go_num, by rw [HE2.out], Lib.hid (by rw [HE2.out, HS2.out]; exact HO3.out)⟩
        case measure => simp [intOf]; omega
      | false =>
        rw [hrun] at HS b7
        have HS2 := Lib.hid (show rawK L (k + 1) = rawK L k by rw [HS.out]; simp)
        obtain ⟨⟨a1, a2, a3, a4, ng, n1, d1⟩, na, nc, da, dc, ru, se⟩ := x
        obtain rfl : ru = false := hrun
        clear HS
        go_wp2_with fail
        go_roundw
        case rel => exact ⟨k + 1, p, c, by omega, by go_num, by rw [HS2.out], Lib.hid (by rw [HS2.out]; exact HO.out.grow HBB.out)⟩
        case measure => simp [intOf]; omega
    · obtain rfl : k = n := by omega
      have HF := Lib.hid (show rawK L k = keysP En.run L by unfold rawK; rw [← HN.out, List.take_length])
      have HL := Lib.hid (rawK_len L k)
      rw [HF.out] at HO HL ⊢
      have KS := Lib.hid (sorted_as HO.out (by have := HL.out; omega))
      go_wp2_with (go_at_call 38; (with_reducible refine KS.out.mono ?_); rintro e w2 ⟨rfl, ⟨L', hp, hs, hr⟩, hg⟩; have HP := Lib.hid hp; have HSS := Lib.hid hs; have HR2 := Lib.hid hr; have HG := Lib.hid hg; clear hp hs hr hg)
      go_ret
      refine ⟨p, c, L', by rw [HP.out.length_eq]; rfl, HP.out, HSS.out, by rw [HP.out.length_eq]; exact HR2.out, ?_⟩
      exact grown_below HO.out.below HG.out (fun k hk => (HO.out.row.lt k hk).1)
end V
end Go.Proofs.YtgnmolleaengaaaGreat
