/- The walk of Jobs. -/
import Derived.Test.YtgnmolleaengaaaGreatRc
set_option linter.unusedVariables false
set_option linter.unusedSimpArgs false
set_option linter.unnecessarySimpa false
namespace Go.Proofs.YtgnmolleaengaaaGreat
open Go Go.RowKit

theorem only_of_grown {w w' : World} {r : Option Nat} {S : List Nat} (hg : w.grownBy w' r) (hS : ∀ k, r = some k → k ∈ S) : Only S w w' :=
  ⟨hg.os, hg.tape, hg.output, hg.size, fun k hk hn => hg.block k hk fun e => hn (hS k e.symm)⟩
theorem owns_only {w w' : World} {B e s n : Nat} {v : Value} {xs : List Value} (h : w.ownsRow B e s v n xs) (hg : w.grownBy w' v.ownBlock) : ∃ S, Only S w w' ∧ ∀ k ∈ S, TyB w k e ∧ B ≤ k := by
  cases hv : v.ownBlock with
  | none => exact ⟨[], only_of_grown hg (by rw [hv]; intro k hk; cases hk), by simp⟩
  | some g => exact ⟨[g], only_of_grown hg (by rw [hv]; intro k hk; cases hk; simp), fun k hk => by rw [List.mem_singleton.1 hk]; exact ⟨owns_ty h hv, (h.lt g hv).1⟩⟩
theorem Ru.grown {w w' : World} {v u : Value} {l : List Nat} {B e s n : Nat} {xs : List Value} (h : Ru w v l) (ho : w.ownsRow B e s u n xs) (he : e ≠ 94) (hg : w.grownBy w' u.ownBlock) : Ru w' v l := by
  obtain ⟨S, hS, hT⟩ := owns_only ho hg
  exact h.only hS fun k hk => ⟨e, (hT k hk).1, he⟩

theorem info33 : (Tryz.prog.info? 29).map (fun i => (i.zero, i.size, i.bytes)) = some (some (.agg #[.int .i64 0, .int .i64 0, .int .i64 0, .bool false, .slice none 0 0, .slice none 0 0, .int .i64 0]), 7, 88) := by kernel_rfl
theorem elt46 : Elt 46 29 7 88 := by
  obtain ⟨i, hi, hz0, hz1, hz2⟩ := info_parts info33
  exact ⟨by kernel_rfl, ⟨i, _, hi, hz0, hz1, hz2, rfl⟩, by decide, by decide⟩

/-- a job with its slices (an entry without marks) -/
def eJ : Enc En := ⟨7, fun x => (jc x.j x.num x.den).toList, fun _ => rfl, by decide, fun x v hv => by simp at hv; rcases hv with rfl | rfl | rfl | rfl | rfl | rfl | rfl <;> rfl⟩
/-- M is a row of jobs equal to L's -/
structure JLike (w : World) (M L : List En) : Prop where
  eq : M.map (·.j) = L.map (·.j)
  frac : ∀ x ∈ M, Ru w x.num (limb x.j.n) ∧ Ru w x.den (limb x.j.d)
theorem JLike.keep {w w' : World} {M L : List En} (h : JLike w M L) (hb : Below w.heap.size w w') : JLike w' M L := ⟨h.eq, fun x hx => ⟨(h.frac x hx).1.keep hb, (h.frac x hx).2.keep hb⟩⟩
theorem JLike.grown {w w' : World} {M L : List En} {u : Value} {B s n : Nat} {xs : List Value} (h : JLike w M L) (ho : w.ownsRow B 29 s u n xs) (hg : w.grownBy w' u.ownBlock) : JLike w' M L :=
  ⟨h.eq, fun x hx => ⟨(h.frac x hx).1.grown ho (by decide) hg, (h.frac x hx).2.grown ho (by decide) hg⟩⟩
def JobsPost (w : World) (L : List En) (e : Ending) (w' : World) : Prop := ∃ a c M, e = .returned (.slice a L.length c) ∧ Rt eJ 29 w' (.slice a L.length c) M ∧ JLike w' M L ∧ Below w.heap.size w w'

set_option maxRecDepth 20000 in
set_option maxHeartbeats 4000000 in
theorem jobs_as {B qb : Nat} {slots : Int} {L : List En} {w : World} (h : Qp B qb slots L w) (hl : L.length ≤ 1000) : Calls Tryz.prog 17 #[.pointer (some ⟨qb, 0, none⟩)] w (JobsPost w L) := by
  obtain ⟨a, cap, c1, hrd⟩ := h.list (by omega)
  obtain ⟨n, hn⟩ : ∃ n, L.length = n := ⟨_, rfl⟩
  have HN := Lib.hid hn
  unfold JobsPost
  rw [hn] at hl hrd c1 ⊢
  have HR := Lib.hid hrd
  have HF := Lib.hid h.frac
  clear h hn hrd
  go_enter Tryz.func17, Tryz.ntmps17
  go_wp2_with fail
  go_loopw [3, 13] (fun x y wr => ∃ (k : Nat) (p : Option Addr) (c : Nat) (M : List En), k ≤ n ∧ y = .int .i64 k ∧ x = .slice p k c ∧ Hid (M.length = k) ∧ Hid (Ow eJ 29 w wr (.slice p k c) M) ∧ Hid (JLike wr M (L.take k))) (fun _ y _ => n - (intOf y).toNat)
  case atStart => exact ⟨0, none, 0, [], by omega, rfl, rfl, Lib.hid rfl, Lib.hid (Ow.start 29 w), Lib.hid ⟨rfl, fun x hx => by cases hx⟩⟩
  case round =>
    rename World => wr
    obtain ⟨k, p, c, M, hk, rfl, rfl, HML, HO, HJ⟩ := hrel
    by_cases hkn : k < n
    · obtain ⟨x, hx⟩ : ∃ x, L[k]? = some x := ⟨L[k]'(by have := HN.out; omega), by simp⟩
      obtain ⟨g, off, rfl, hg, hcell⟩ := HR.out.entry hx
      obtain ⟨b0, b1, b2, b3, b4, b5, b6, b7, b8⟩ := hcell _ HO.out.below
      have HBB := Lib.hid (below_alloc wr (.cells (ec x) 76))
      have hf := HF.out x (List.mem_of_getElem? hx)
      have KC := Lib.hid (clone_as ((hf.1.keep (HO.out.below.trans (HBB.out.mono HO.out.below.size))).rd) ((hf.2.keep (HO.out.below.trans (HBB.out.mono HO.out.below.size))).rd))
      have HX := Lib.hid (show ∀ y : En, y.j = x.j → (M ++ [y]).map (·.j) = (L.take (k + 1)).map (·.j) by
        intro y hy
        rw [List.take_add_one, hx, List.map_append, List.map_append, HJ.out.eq]
        simp [hy])
      clear hx hcell hg hf
      obtain ⟨⟨a1, a2, a3, a4, n1, d1⟩, na, nc, da, dc, ru, se⟩ := x
      go_wp2_with (first
        | (go_at_call 35; (with_reducible refine KC.out.mono ?_); rintro e w2 ⟨xa, xc, ya, yc, rfl, r1, r2, hb⟩; have HO2 := Lib.hid (HO.out.grow (HBB.out.trans (hb.mono HBB.out.size))); have HJ2 := Lib.hid (HJ.out.keep (HBB.out.trans (hb.mono HBB.out.size))); have R1 := Lib.hid r1; have R2 := Lib.hid r2; clear hb r1 r2)
        | (at_builtin; refine wpList_push elt46 (E := eJ) (x := ⟨⟨a1, a2, a3, a4, n1, d1⟩, xa, xc, ya, yc, false, false⟩) _ _ rfl rfl rfl rfl rfl HO2.out (by have := HML.out; omega) ?_; intro p3 c3 w3 HO3 HG3; rw [HML.out] at HO3 HG3 ⊢))
      go_roundw
      case rel =>
        refine ⟨k + 1, p3, c3, M ++ [⟨⟨a1, a2, a3, a4, n1, d1⟩, xa, xc, ya, yc, false, false⟩], by omega, by go_num, rfl, Lib.hid (by simp [HML.out]), HO3, Lib.hid ⟨HX.out _ rfl, fun y hy => ?_⟩⟩
        have hbx := below_alloc w2 (.cells (eJ.f ⟨⟨a1, a2, a3, a4, n1, d1⟩, xa, xc, ya, yc, false, false⟩).toArray 29)
        have hor := (HO2.out.grow hbx).row
        rcases List.mem_append.1 hy with hy | hy
        · exact ⟨((HJ2.out.frac y hy).1.keep hbx).grown hor (by decide) HG3.out.by_, ((HJ2.out.frac y hy).2.keep hbx).grown hor (by decide) HG3.out.by_⟩
        · rw [List.mem_singleton.1 hy]
          exact ⟨(R1.out.keep hbx).grown hor (by decide) HG3.out.by_, (R2.out.keep hbx).grown hor (by decide) HG3.out.by_⟩
      case measure => simp [intOf]; omega
    · obtain rfl : k = n := by omega
      go_wp2_with fail
      go_ret
      have hrd := Rt.of_ow HO.out (by have := HML.out; omega)
      have hj := HJ.out
      rw [← HN.out, List.take_length] at hj
      exact ⟨p, c, M, rfl, hrd, hj, HO.out.below⟩
end Go.Proofs.YtgnmolleaengaaaGreat
