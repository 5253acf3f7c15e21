/- The walks of Seal and Remove. -/
import Derived.Test.YtgnmolleaengaaaGreatRi
import Derived.Test.YtgnmolleaengaaaGreatRg
set_option linter.unusedVariables false
set_option linter.unusedSimpArgs false
set_option linter.unnecessarySimpa false
namespace Go.Proofs.YtgnmolleaengaaaGreat
open Go Go.RowKit

/-- the queue's own block -/
structure Qh (B qb : Nat) (slots : Int) (w : World) : Prop where
  c0 : w.cell? ⟨qb, 0, none⟩ = some (.int .i64 slots)
  c1 : ∃ v, w.cell? ⟨qb, 1, none⟩ = some v
  thaw : Thaw w qb
  ty : TyB w qb 68
  base : B ≤ qb
theorem Qp.head {B qb : Nat} {slots : Int} {L : List En} {w : World} (h : Qp B qb slots L w) : Qh B qb slots w := by
  obtain ⟨v, h1, _⟩ := h.row
  exact ⟨h.c0, ⟨v, h1⟩, h.thaw, h.ty, h.base⟩
namespace Qh
variable {B qb : Nat} {slots : Int} {L : List En} {w w' : World}
theorem same (h : Qh B qb slots w) (hb : w'.heap[qb]? = w.heap[qb]?) : Qh B qb slots w' := by
  obtain ⟨v, h1⟩ := h.c1
  exact ⟨(World.cell?_of_block (a := ⟨qb, 0, none⟩) hb).trans h.c0, ⟨v, (World.cell?_of_block (a := ⟨qb, 1, none⟩) hb).trans h1⟩, h.thaw.same hb, h.ty.same hb, h.base⟩
theorem keep (h : Qh B qb slots w) (hb : Below w.heap.size w w') : Qh B qb slots w' := h.same (hb.block qb h.ty.lt)
theorem put (h : Qh B qb slots w) {v : Value} (hr : w.ownsRow B 76 9 v L.length (eE.flat L)) (hf : ∀ x ∈ L, Ru w x.num (limb x.j.n) ∧ Ru w x.den (limb x.j.d)) (ho : ∀ x ∈ L, OkJ x.j) : Qp B qb slots L (w.setCell ⟨qb, 1, none⟩ v) := by
  obtain ⟨u, h1⟩ := h.c1
  refine ⟨(World.cell?_setCell_other _ _ _ _ (by simp)).trans h.c0, ⟨v, World.cell?_setCell_same _ _ _ h1, ?_⟩, h.thaw.setCell _ _, h.ty.setCell _ _, h.base, fun x hx => ⟨(hf x hx).1.set h.ty (by decide) _ _, (hf x hx).2.set h.ty (by decide) _ _⟩, ho⟩
  exact owns_same hr fun k hk => Below.heap_setCell _ _ _ _ fun e => by
    have e : k = qb := e
    subst e
    exact absurd ((owns_ty hr hk).uniq h.ty) (by decide)
end Qh
theorem Qt.own {B : Nat} {w w1 w2 : World} {g : Nat} (h : Qt B w w1) (hg : w1.grownBy w2 (some g)) (ht : TyB w1 g 76) (hB : B ≤ g) : Qt B w w2 :=
  h.only (S := [g]) (only_of_grown hg fun k hk => by cases hk; simp) (fun s hs => by rw [List.mem_singleton.1 hs]; exact ⟨.inl ht, hB⟩) fun s hs t h6 hst => by
    rw [List.mem_singleton.1 hs] at hst
    exact absurd (ht.uniq hst).symm h6

theorem idxF_spec {k : Ky} {L : List En} {i : Nat} (h : idxF k L = (i : Int)) : ∃ x, L[i]? = some x ∧ x.key = k := by
  unfold idxF at h
  split at h
  · rename_i j hj
    obtain rfl : j = i := by omega
    obtain ⟨hl, hp, _⟩ := List.findIdx?_eq_some_iff_getElem.1 hj
    exact ⟨L[j], by simp [hl], by simpa [keyB] using hp⟩
  · omega
theorem idxF_cases (k : Ky) (L : List En) : idxF k L = -1 ∨ ∃ i : Nat, idxF k L = (i : Int) ∧ i < L.length := by
  unfold idxF
  split
  · rename_i j hj
    obtain ⟨hl, _⟩ := List.findIdx?_eq_some_iff_getElem.1 hj
    exact .inr ⟨j, rfl, hl⟩
  · exact .inl rfl

set_option maxRecDepth 20000 in
theorem remove_no {B qb : Nat} {slots : Int} {L : List En} {w : World} (h : Qp B qb slots L w) (hl : L.length ≤ 1000) {k : Ky} (hi : idxF k L = -1) : Calls Tryz.prog 22 #[.pointer (some ⟨qb, 0, none⟩), kv k] w fun e w' => e = .returned (.int .i64 110) ∧ Below w.heap.size w w' := by
  have HB := Lib.hid (below_alloc w (.cells #[.int .i64 k.1, .int .i64 k.2] 33))
  have HF := Lib.hid (find_as (h.keep HB.out) hl k hi)
  clear h
  obtain ⟨k1, k2⟩ := k
  go_enter Tryz.func22, Tryz.ntmps22
  go_wp2_with (go_at_call 33; (with_reducible refine HF.out.mono ?_); rintro e w1 ⟨rfl, hb⟩; have HB1 := Lib.hid (HB.out.trans (hb.mono HB.out.size)); clear hb)
  go_ret
  exact ⟨rfl, HB1.out⟩

def QueuePost (B qb : Nat) (slots : Int) (L : List En) (r : Int) (w : World) (e : Ending) (w' : World) : Prop := e = .returned (.int .i64 r) ∧ Qp B qb slots L w' ∧ Qt B w w'

set_option maxRecDepth 20000 in
set_option maxHeartbeats 1000000 in
theorem remove_yes {B qb : Nat} {slots : Int} {L : List En} {w : World} (h : Qp B qb slots L w) (hl : L.length ≤ 1000) {k : Ky} {i : Nat} (hi : idxF k L = (i : Int)) : Calls Tryz.prog 22 #[.pointer (some ⟨qb, 0, none⟩), kv k] w (QueuePost B qb slots (L.eraseIdx i) 0 w) := by
  obtain ⟨x, hx, -⟩ := idxF_spec hi
  have hil : i < L.length := (List.getElem?_eq_some_iff.1 hx).1
  have HB := Lib.hid (below_alloc w (.cells #[.int .i64 k.1, .int .i64 k.2] 33))
  have HF := Lib.hid (find_as (h.keep HB.out) hl k hi)
  obtain ⟨n, hn⟩ : ∃ n, L.length = n := ⟨_, rfl⟩
  have HN := Lib.hid hn
  obtain ⟨g, cap, hqa⟩ := h.at hn (by omega)
  have HQ0 := Lib.hid (hqa.keep HB.out)
  obtain ⟨j, hj⟩ : ∃ j : Nat, j = i + 1 := ⟨_, rfl⟩
  have HJ := Lib.hid hj
  have hij : (i : Int) + 1 = (j : Int) := by omega
  have hneg : decide ((i : Int) < 0) = false := by simp
  rw [hn] at hl hil
  clear h hqa hx hi hn hj
  obtain ⟨k1, k2⟩ := k
  unfold QueuePost
  go_enter Tryz.func22, Tryz.ntmps22
  go_wp2_with (first
    | (go_at_call 33; (with_reducible refine HF.out.mono ?_); rintro e w1 ⟨rfl, hb⟩; have HQ := Lib.hid (HQ0.out.keep hb); have HT := Lib.hid ((Qt.of_below HB.out B).keep hb); have c1 := HQ.out.c1; clear hb)
    | (go_at_call 46; (with_reducible refine (delete_as HQ.out.own HN.out hil HJ.out hl).mono ?_); rintro e w2 ⟨rfl, ho, hg⟩; have HO := Lib.hid ho; have HG := Lib.hid hg; have HH := Lib.hid (HQ.out.q.head.same (hg.block qb HQ.out.q.ty.lt fun e => HQ.out.ne (Option.some.inj e).symm)); obtain ⟨u, d1⟩ := HH.out.c1; have df := HH.out.thaw 1; clear ho hg))
  go_ret
  have hfr : ∀ x ∈ L.eraseIdx i, Ru w2 x.num (limb x.j.n) ∧ Ru w2 x.den (limb x.j.d) := fun x hx => by
    have := HQ.out.q.frac x (List.mem_of_mem_eraseIdx hx)
    exact ⟨this.1.grown HQ.out.own (by decide) HG.out, this.2.grown HQ.out.own (by decide) HG.out⟩
  have hlen : (L.eraseIdx i).length = n - 1 := by rw [List.length_eraseIdx, if_pos (by have := HN.out; omega), HN.out]
  have ht2 := HT.out.own HG.out HQ.out.ty HQ.out.base
  exact ⟨rfl, HH.out.put (by rw [hlen]; exact HO.out) hfr (fun x hx => HQ.out.q.ok x (List.mem_of_mem_eraseIdx hx)), ht2.set (.inr HH.out.ty) HH.out.base _ _⟩
end Go.Proofs.YtgnmolleaengaaaGreat

/- The walk of Seal. -/
namespace Go.Proofs.YtgnmolleaengaaaGreat
open Go Go.RowKit

set_option maxRecDepth 20000 in
theorem held_no {B qb : Nat} {slots : Int} {L : List En} {w : World} (h : Qp B qb slots L w) (hl : L.length ≤ 1000) {k : Ky} (hi : idxF k L = -1) : Calls Tryz.prog 23 #[.pointer (some ⟨qb, 0, none⟩), kv k] w fun e w' => e = .returned (.int .i64 110) ∧ Below w.heap.size w w' := by
  have HB := Lib.hid (below_alloc w (.cells #[.int .i64 k.1, .int .i64 k.2] 33))
  have HF := Lib.hid (find_as (h.keep HB.out) hl k hi)
  clear h
  obtain ⟨k1, k2⟩ := k
  go_enter Tryz.func23, Tryz.ntmps23
  go_wp2_with (go_at_call 33; (with_reducible refine HF.out.mono ?_); rintro e w1 ⟨rfl, hb⟩; have HB1 := Lib.hid (HB.out.trans (hb.mono HB.out.size)); clear hb)
  go_ret
  exact ⟨rfl, HB1.out⟩

set_option maxRecDepth 20000 in
set_option maxHeartbeats 1000000 in
theorem held_off {B qb : Nat} {slots : Int} {L : List En} {w : World} (h : Qp B qb slots L w) (hl : L.length ≤ 1000) {k : Ky} {i : Nat} (hi : idxF k L = (i : Int)) {x : En} (hx : L[i]? = some x) (hr : x.run = false) : Calls Tryz.prog 23 #[.pointer (some ⟨qb, 0, none⟩), kv k] w fun e w' => e = .returned (.int .i64 110) ∧ Below w.heap.size w w' := by
  have hil : i < L.length := (List.getElem?_eq_some_iff.1 hx).1
  have HB := Lib.hid (below_alloc w (.cells #[.int .i64 k.1, .int .i64 k.2] 33))
  have HF := Lib.hid (find_as (h.keep HB.out) hl k hi)
  obtain ⟨n, hn⟩ : ∃ n, L.length = n := ⟨_, rfl⟩
  obtain ⟨g, cap, hqa⟩ := h.at hn (by omega)
  have HQ0 := Lib.hid (hqa.keep HB.out)
  have HX := Lib.hid hx
  have HR := Lib.hid (show ((ec x).toList)[7]? = some (.bool false) by rw [← hr]; rfl)
  have hneg : decide ((i : Int) < 0) = false := by simp
  have hc := hqa.caps
  have hc1 := hc.1
  have hc2 := hc.2
  rw [hn] at hl hil
  clear h hqa hx hi hn hr hc
  obtain ⟨k1, k2⟩ := k
  go_enter Tryz.func23, Tryz.ntmps23
  go_wp2_with (go_at_call 33; (with_reducible refine HF.out.mono ?_); rintro e w1 ⟨rfl, hb⟩; have HQ := Lib.hid (HQ0.out.keep hb); have HB1 := Lib.hid (HB.out.trans (hb.mono HB.out.size)); have c1 := HQ.out.c1; have c7 := HQ.out.cell HX.out HR.out; clear hb)
  go_ret
  exact ⟨rfl, HB1.out⟩

set_option maxRecDepth 20000 in
set_option maxHeartbeats 1000000 in
theorem held_on {B qb : Nat} {slots : Int} {L : List En} {w : World} (h : Qp B qb slots L w) (hl : L.length ≤ 1000) {k : Ky} {i : Nat} (hi : idxF k L = (i : Int)) {x : En} (hx : L[i]? = some x) (hr : x.run = true) : Calls Tryz.prog 23 #[.pointer (some ⟨qb, 0, none⟩), kv k] w (QueuePost B qb slots (L.set i { x with held := true }) 0 w) := by
  have hil : i < L.length := (List.getElem?_eq_some_iff.1 hx).1
  have HB := Lib.hid (below_alloc w (.cells #[.int .i64 k.1, .int .i64 k.2] 33))
  have HF := Lib.hid (find_as (h.keep HB.out) hl k hi)
  obtain ⟨n, hn⟩ : ∃ n, L.length = n := ⟨_, rfl⟩
  obtain ⟨g, cap, hqa⟩ := h.at hn (by omega)
  have HQ0 := Lib.hid (hqa.keep HB.out)
  have HX := Lib.hid hx
  have HR := Lib.hid (show ((ec x).toList)[7]? = some (.bool true) by rw [← hr]; rfl)
  have hneg : decide ((i : Int) < 0) = false := by simp
  have hc := hqa.caps
  have hc1 := hc.1
  have hc2 := hc.2
  rw [hn] at hl hil
  clear h hqa hx hi hn hr hc
  obtain ⟨k1, k2⟩ := k
  unfold QueuePost
  go_enter Tryz.func23, Tryz.ntmps23
  go_wp2_with (go_at_call 33; (with_reducible refine HF.out.mono ?_); rintro e w1 ⟨rfl, hb⟩; have HQ := Lib.hid (HQ0.out.keep hb); have HT1 := Lib.hid ((Qt.of_below HB.out B).keep hb); have c1 := HQ.out.c1; have c7 := HQ.out.cell HX.out HR.out; have c8 := HQ.out.cell (j := 8) HX.out rfl; have cf := HQ.out.cold (i * 9 + 8); clear hb)
  go_ret
  exact ⟨rfl, (HQ.out.setHeld HX.out).q, HT1.out.set (.inl HQ.out.ty) HQ.out.base _ _⟩
end Go.Proofs.YtgnmolleaengaaaGreat

/- sort.SliceStable at the queue. -/
namespace Go.Proofs.YtgnmolleaengaaaGreat
open Go Go.Shelf Go.RowKit Go.Lib
open Go.Sort (HoldsK putRowK SWO flatK)

theorem sl_one : Tryz.prog.funcs.findIdx? (·.name == "internal/reflectlite" ++ ".Swapper$" ++ toString 1) = some 81 := swapper_none
theorem entry_tiny (p : Option Addr) (n c : Nat) (h1 : n ≤ 1) (lf : Fn) (la lb : Array Value) (w : World) : Calls Tryz.prog 36 #[.iface 66 (.slice p n c), .func lf la lb] w fun e w' => e = .returned (.tuple #[]) ∧ Below w.heap.size w w' := by
  have key : ∃ f, Tryz.prog.funcs.findIdx? (·.name == "internal/reflectlite" ++ ".Swapper$" ++ toString (swapperK n siE 25)) = some f := by
    rcases (by omega : n = 0 ∨ n = 1) with rfl | rfl
    · exact ⟨_, by rw [show swapperK 0 siE 25 = 1 by simp [swapperK]]; exact swapper_none⟩
    · exact ⟨_, by rw [show swapperK 1 siE 25 = 2 by simp [swapperK]]; exact swapper_one⟩
  obtain ⟨f, hf⟩ := key
  refine (Any.sort_SliceStable_tiny stable8 66 76 siT siE (by kernel_rfl) (by kernel_rfl) (by kernel_rfl) (by kernel_rfl) 25 (fun _ => by kernel_rfl) p n c h1 f hf lf la lb w).mono ?_
  rintro e w' ⟨rfl, os, rfl⟩
  exact ⟨rfl, rfl, rfl, rfl, by simp [Sort.grow], fun k hk => by simp [Sort.grow, Array.getElem?_append, hk]⟩

def SortedPost (B qb : Nat) (slots : Int) (L : List En) (w : World) (e : Ending) (w' : World) : Prop := e = .returned (.tuple #[]) ∧ ∃ L', L'.Perm L ∧ L'.Pairwise (fun x y => ltE y x = false) ∧ Qp B qb slots L' w' ∧ Qt B w w'

set_option maxHeartbeats 1000000 in
theorem stable_as {B qb : Nat} {slots : Int} {L : List En} {w : World} (h : Qp B qb slots L w) (hl : L.length ≤ 19) {v : Value} (c1 : w.cell? ⟨qb, 1, none⟩ = some v) :
    Calls Tryz.prog 36 #[.iface 66 v, .func (.func 37) #[.pointer (some ⟨qb, 0, none⟩)] #[]] w (SortedPost B qb slots L w) := by
  by_cases h2 : 2 ≤ L.length
  · obtain ⟨n, hn⟩ : ∃ n, L.length = n := ⟨_, rfl⟩
    obtain ⟨g, cap, hqa⟩ := h.at hn (by omega)
    have e := c1.symm.trans hqa.c1
    cases e
    have hfr : ∀ x ∈ L, FrR w x := fun x hx => ⟨(h.frac x hx).1, (h.frac x hx).2, h.ok x hx⟩
    obtain ⟨D, hD⟩ : ∃ D : List (Ea w), D.map Subtype.val = L := ⟨L.attach.map fun x => ⟨x.1, hfr x.1 x.2⟩, by simp⟩
    have hDl : D.length = n := by rw [← hn, ← hD, List.length_map]
    haveI : Inhabited (Ea w) := ⟨D[0]'(by omega)⟩
    have hH := own_holds D (by rw [hD]; exact hqa.own) hDl
    refine (stable_rows D.toArray (by simpa using hDl) (by omega) (by omega) hH hqa.ty hqa.c1 h.ty).mono ?_
    rintro e w' ⟨he, d', hs, hp, hw, ho, hb⟩
    have hr := reown hqa.own d' hs hb
    have hperm : (d'.toList.map Subtype.val).Perm L := by
      have := hp.map Subtype.val
      simpa [hD] using this
    have hlen : (d'.toList.map Subtype.val).length = n := by simp [hs]
    have hgq : qb ∉ [g] := fun hm => hqa.ne (List.mem_singleton.1 hm).symm
    have hbl := ho.block qb h.ty.lt hgq
    have hS : ∀ s ∈ [g], ∃ t, TyB w s t ∧ t ≠ 94 := fun s hs => ⟨76, by rw [List.mem_singleton.1 hs]; exact hqa.ty, by decide⟩
    refine ⟨he, d'.toList.map Subtype.val, hperm, ?_, ⟨(World.cell?_of_block (a := ⟨qb, 0, none⟩) hbl).trans h.c0, ⟨_, (World.cell?_of_block (a := ⟨qb, 1, none⟩) hbl).trans c1, by rw [hlen]; exact hr⟩, h.thaw.same hbl, h.ty.same hbl, h.base, fun x hx => ?_, fun x hx => h.ok x (hperm.mem_iff.1 hx)⟩, ?_⟩
    · rw [List.pairwise_map]
      exact hw
    · have := h.frac x (hperm.mem_iff.1 hx)
      exact ⟨this.1.only ho hS, this.2.only ho hS⟩
    · exact (Qt.refl B w).only ho (fun s hs => by rw [List.mem_singleton.1 hs]; exact ⟨.inl hqa.ty, hqa.base⟩) fun s hs t h6 hst => by
        rw [List.mem_singleton.1 hs] at hst
        exact absurd (hqa.ty.uniq hst).symm h6
  · obtain ⟨a, cap, c2, -⟩ := h.list (by omega)
    have e := c1.symm.trans c2
    cases e
    refine (entry_tiny a L.length cap (by omega) _ _ _ w).mono ?_
    rintro e w' ⟨he, hb⟩
    refine ⟨he, L, List.Perm.refl _, ?_, h.keep hb, Qt.of_below hb B⟩
    match L, h2 with
    | [], _ => exact List.Pairwise.nil
    | [x], _ => exact List.pairwise_singleton _ _
    | _ :: _ :: _, h2 => simp at h2
end Go.Proofs.YtgnmolleaengaaaGreat
