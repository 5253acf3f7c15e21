/- The walk of sorted. -/
import Derived.Test.YtgnmolleaengaaaGreatRa
import Derived.Test.YtgnmolleaengaaaGreatQg
import Derived.Shelf.SlSortFuncK.WholeK
set_option linter.unusedVariables false
set_option linter.unusedSimpArgs false
set_option linter.unnecessarySimpa false
namespace Go.Proofs.YtgnmolleaengaaaGreat
open Go Go.Shelf Go.RowKit Go.Lib
open Go.Sort (HoldsK putRowK SWO flatK)

theorem owns_ty {w : World} {B e s n : Nat} {v : Value} {xs : List Value} (h : w.ownsRow B e s v n xs) {g : Nat} (hg : v.ownBlock = some g) : TyB w g e := by
  rcases h.2 with ⟨h0, _⟩ | ⟨g', cap, cur, he, _, hg', _⟩
  · rw [h0] at hg; cases hg
  · rw [he] at hg
    cases hg
    exact ⟨_, _, hg'⟩
/-- a slice that reads as l, in a block of type t -/
structure Rt {α : Type} (E : Enc α) (t : TypeId) (w : World) (v : Value) (l : List α) : Prop where
  rd : Rd E w v l
  ty : ∀ k, v.ownBlock = some k → TyB w k t
theorem Rt.of_ow {α : Type} {E : Enc α} {t : TypeId} {w0 w : World} {v : Value} {l : List α} (h : Ow E t w0 w v l) (hl : l.length ≤ 1000000) : Rt E t w v l := ⟨h.rd hl, fun k hk => owns_ty h.row hk⟩
theorem Rt.keep {α : Type} {E : Enc α} {t : TypeId} {w w' : World} {v : Value} {l : List α} (h : Rt E t w v l) (hb : Below w.heap.size w w') : Rt E t w' v l := ⟨h.rd.keep hb, fun k hk => (h.ty k hk).keep hb⟩

section
variable {α : Type} [Inhabited α] {E : Enc α}
theorem flat_arrE (D : List α) (t : Nat) (ht : t < D.length * E.k) : (E.flat D)[t]? = some (flatK E.f E.k D.toArray)[t]! := by
  have hp := E.pos
  rw [Go.Sort.get_flatK E.f E.k D.toArray t (by simpa using ht)]
  have hi : t / E.k < D.length := Nat.div_lt_of_lt_mul (by rw [Nat.mul_comm]; exact ht)
  have hm : t % E.k < E.k := Nat.mod_lt _ hp
  have h := flat_get (E := E) D (t / E.k) D[t / E.k] (t % E.k) (by simp [hi]) hm
  rw [show t / E.k * E.k + t % E.k = t by rw [Nat.mul_comm]; exact Nat.div_add_mod t E.k] at h
  rw [h]
  have e1 : D.toArray[t / E.k]! = D[t / E.k] := by simp [hi]
  rw [e1]
  have hl : t % E.k < (E.f D[t / E.k]).length := by rw [E.len]; exact hm
  rw [List.getElem?_eq_getElem hl, List.getElem!_eq_getElem?_getD, List.getElem?_eq_getElem hl]
  rfl
theorem own_holdsE {w : World} {B e g n cap : Nat} (D : List α) (h : World.ownsRow w B e E.k (.slice (some ⟨g, 0, none⟩) n cap) n (E.flat D)) : HoldsK E.f E.k w g 0 D.toArray := by
  intro j hj
  have hj' : j < D.length * E.k := by simpa [E.len] using hj
  refine ⟨?_, ?_⟩
  · have := h.cells rfl j _ (flat_arrE D j hj')
    rw [add_off, Nat.zero_add] at this
    rw [Nat.zero_add]
    exact this
  · rw [Nat.zero_add]
    exact h.frozenAt _
theorem rd_holds {w : World} {g c : Nat} {D : List α} (hH : HoldsK E.f E.k w g 0 D.toArray) (hg : g < w.heap.size) (hc : D.length ≤ c ∧ c ≤ 9223372036854775807) : Rd E w (.slice (some ⟨g, 0, none⟩) D.length c) D := by
  refine ⟨_, c, rfl, hc, .inr ⟨g, 0, rfl, hg, fun j u hu => ?_⟩⟩
  have hj : j < D.length * E.k := by
    have := (List.getElem?_eq_some_iff.1 hu).1
    rwa [flat_len] at this
  rw [flat_arrE D j hj] at hu
  cases hu
  exact (hH j (by simpa [E.len] using hj)).1
end

theorem swoK : SWO ltK := ⟨fun x => by simp [ltK], fun x y z h1 h2 => by
  unfold ltK at *
  split at h1 <;> split at h2 <;> split <;> simp_all <;> omega, fun x y z h1 h2 => by
  unfold ltK at *
  split at h1 <;> split at h2 <;> split <;> simp_all <;> omega⟩
theorem eK_len (x : Ky) : (eK.f x).length = 2 := rfl
noncomputable def kiT : TypeInfo := (Tryz.prog.info? 48).get (by kernel_rfl)
noncomputable def kiE : TypeInfo := (Tryz.prog.info? 33).get (by kernel_rfl)
theorem kiK9 (n : Nat) (h : 2 ≤ n) : swapperK n kiE 25 = 9 := by
  have hp : kiE.hasPointers = false := by kernel_rfl
  have hb : kiE.bytes = 16 := by kernel_rfl
  unfold swapperK
  simp [hp, hb, show ¬ n = 0 by omega, show ¬ n = 1 by omega]
theorem swapper_none : Tryz.prog.funcs.findIdx? (·.name == "internal/reflectlite" ++ ".Swapper$" ++ toString 1) = some 81 := by kernel_rfl
theorem swapper_one : Tryz.prog.funcs.findIdx? (·.name == "internal/reflectlite" ++ ".Swapper$" ++ toString 2) = some 82 := by kernel_rfl
theorem key_tiny (p : Option Addr) (n c : Nat) (h1 : n ≤ 1) (lf : Fn) (la lb : Array Value) (w : World) : Calls Tryz.prog 65 #[.iface 48 (.slice p n c), .func lf la lb] w fun e w' => e = .returned (.tuple #[]) ∧ Below w.heap.size w w' := by
  have key : ∃ f, Tryz.prog.funcs.findIdx? (·.name == "internal/reflectlite" ++ ".Swapper$" ++ toString (swapperK n kiE 25)) = some f := by
    rcases (by omega : n = 0 ∨ n = 1) with rfl | rfl
    · exact ⟨_, by rw [show swapperK 0 kiE 25 = 1 by simp [swapperK]]; exact swapper_none⟩
    · exact ⟨_, by rw [show swapperK 1 kiE 25 = 2 by simp [swapperK]]; exact swapper_one⟩
  obtain ⟨f, hf⟩ := key
  refine (Any.sort_Slice_tiny slice6 48 33 kiT kiE (by kernel_rfl) (by kernel_rfl) (by kernel_rfl) (by kernel_rfl) 25 (fun _ => by kernel_rfl) p n c h1 f hf lf la lb w).mono ?_
  rintro e w' ⟨rfl, os, rfl⟩
  exact ⟨rfl, rfl, rfl, rfl, by simp [Sort.grow], fun k hk => by simp [Sort.grow, Array.getElem?_append, hk]⟩

theorem grown_below {w0 w w' : World} {g : Option Nat} (hb : Below w0.heap.size w0 w) (hg : w.grownBy w' g) (h : ∀ k, g = some k → w0.heap.size ≤ k) : Below w0.heap.size w0 w' := hb.grown hg hb.size h

set_option maxHeartbeats 2000000 in
theorem sort_keys {w0 w : World} {a : Option Addr} {n c b : Nat} {L : List Ky} (h : Ow eK 33 w0 w (.slice a n c) L) (hn : n ≤ 1000) (hbox : w.cell? ⟨b, 0, none⟩ = some (.slice a n c)) (hb : b < w.heap.size) (hne : (Value.slice a n c).ownBlock ≠ some b) :
    Calls Tryz.prog 65 #[.iface 48 (.slice a n c), .func (.func 66) #[] #[.pointer (some ⟨b, 0, none⟩)]] w fun e w' => e = .returned (.tuple #[]) ∧ ∃ L', L'.Perm L ∧ L'.Pairwise (fun x y => ltK y x = false) ∧ Rt eK 33 w' (.slice a n c) L' ∧ w.grownBy w' (Value.slice a n c).ownBlock := by
  have hlen : n = L.length := by obtain ⟨a', cap', e⟩ := h.val; cases e; rfl
  have hrd := h.rd (by omega)
  by_cases h2 : 2 ≤ n
  · obtain ⟨g, rfl⟩ : ∃ g, a = some ⟨g, 0, none⟩ := by
      rcases h.row.2 with ⟨h0, h1⟩ | ⟨g, cap, cur, he, _⟩
      · omega
      · cases he; exact ⟨g, rfl⟩
    have hds : L.toArray.size = n := by simpa using hlen.symm
    have hgl := (h.row.lt g rfl).2
    have hH : HoldsK eK.f 2 w g 0 L.toArray := own_holdsE (E := eK) (cap := c) L (by have := h.row; rwa [← hlen] at this)
    have hbg : b ≠ g := fun e => hne (by rw [e]; rfl)
    have hcap := hrd.caps
    have hless : LessReadsK Tryz.prog 66 #[.pointer (some ⟨b, 0, none⟩)] eK.f 2 ltK g 0 L.toArray.size w := by
      intro m os dk hs i j hi hj
      have hHg := holdsK_sortWorldK eK.f 2 w g 0 m L.toArray dk os hgl hH hs
      refine less_closure (b := b) (g := g) (off := 0) (n := n) (c := c) ?_ (by omega) (by omega) (by omega) (hHg.cell (i := i) (c := 0) (by omega) (by omega)).1 (hHg.cell (i := i) (c := 1) (by omega) (by omega)).1 (hHg.cell (i := j) (c := 0) (by omega) (by omega)).1 (hHg.cell (i := j) (c := 1) (by omega) (by omega)).1
      rw [cell?_sortWorldK_other _ _ _ _ _ _ _ _ _ hbg hb]
      exact hbox
    have hS := Any.sort_Slice_cells_sorted slice6 48 33 kiT kiE (by kernel_rfl) (by kernel_rfl) (by kernel_rfl) (by kernel_rfl) 25 (fun _ => by kernel_rfl) eK.f 2 (fun _ => rfl) (by kernel_rfl) (fun _ => by kernel_rfl) eK.one ltK swoK 66 #[.pointer (some ⟨b, 0, none⟩)]
      (enters_of Tryz.func66 (by kernel_rfl) rfl) g 0 c L.toArray (by omega) (by omega) 89 (by rw [hds, kiK9 _ h2]; exact swapper9) false
      (fun args W => run_callFunc_extern Tryz.func89 (by kernel_rfl) (by kernel_rfl) (by kernel_rfl) (e := Extern.ReflectliteSwapper.swap false) (by kernel_rfl) args W) w hless hH hgl
    rw [hds] at hS
    refine hS.mono ?_
    rintro e w' ⟨he, d', m, os, hP, hSo, rfl⟩
    have hsz : d'.size = n := by have := hP.1; omega
    have hP' : Go.Sort.PermIn 0 L.toArray.size L.toArray d' := by rw [hds]; exact hP
    have hHg := holdsK_sortWorldK eK.f 2 w g 0 m L.toArray d' os hgl hH (by omega)
    have hlt := lt_sortWorldK eK.f 2 w g 0 m d' os hgl
    refine ⟨he, d'.toList, by simpa using perm_of hP', pairs_of hsz.symm hSo, ?_, ?_⟩
    · have := rd_holds (E := eK) (D := d'.toList) (c := c) (by rw [show d'.toList.toArray = d' by simp]; exact hHg) hlt (by simp [hsz]; omega)
      rw [show d'.toList.length = n by simpa using hsz] at this
      refine ⟨this, fun k hk => ?_⟩
      cases hk
      obtain ⟨cc, z, hh⟩ := owns_ty h.row (g := g) rfl
      exact ⟨_, z, by
        have hl2 := hgl
        simp [Sort.grow, putRowK, Go.Sort.putRow, Go.Sort.mapBlock, Sort.ahead, Array.getElem?_append, hl2]
        rw [Array.getElem_modify, if_pos rfl, show w.heap[g] = .cells cc 33 z from Option.some.inj ((Array.getElem?_eq_getElem hl2).symm.trans hh)]
        rfl⟩
    · refine ⟨rfl, rfl, rfl, by simp [Sort.grow, putRowK, Go.Sort.putRow, Go.Sort.mapBlock, Sort.ahead], fun k hk hkg => ?_⟩
      have hkg' : k ≠ g := fun e => hkg (by rw [e]; rfl)
      simp [Sort.grow, putRowK, Go.Sort.putRow, Go.Sort.mapBlock, Sort.ahead, Array.getElem?_append, hk, Array.getElem_modify]
      exact fun e => absurd e.symm hkg'
  · refine (key_tiny a n c (by omega) _ _ _ w).mono ?_
    rintro e w' ⟨he, hbl⟩
    refine ⟨he, L, List.Perm.refl _, ?_, (Rt.of_ow h (by omega)).keep hbl, ⟨hbl.os, hbl.tape, hbl.output, hbl.size, fun k hk _ => hbl.block k hk⟩⟩
    match L, hlen with
    | [], _ => exact List.Pairwise.nil
    | [x], _ => exact List.pairwise_singleton _ _
    | _ :: _ :: _, hlen => simp at hlen; omega

/-- what sorted returns -/
def SortPost (w : World) (a : Option Addr) (n c : Nat) (L : List Ky) (e : Ending) (w' : World) : Prop := e = .returned (.slice a n c) ∧ (∃ L', L'.Perm L ∧ L'.Pairwise (fun x y => ltK y x = false) ∧ Rt eK 33 w' (.slice a n c) L') ∧ w.grownBy w' (Value.slice a n c).ownBlock

set_option maxRecDepth 20000 in
set_option maxHeartbeats 1000000 in
theorem sorted_as {w0 w : World} {a : Option Addr} {n c : Nat} {L : List Ky} (h : Ow eK 33 w0 w (.slice a n c) L) (hn : n ≤ 1000) : Calls Tryz.prog 38 #[.slice a n c] w (SortPost w a n c L) := by
  have hba := below_alloc w (.cells #[.slice a n c] 48)
  have hH := Holds.new w #[.slice a n c] 48
  have hne : (Value.slice a n c).ownBlock ≠ some w.heap.size := fun e => by have := (h.row.lt _ e).2; omega
  have HS := Lib.hid (sort_keys (h.grow hba) hn (hH.cell 0 _ rfl) hH.lt hne)
  have HB := Lib.hid hba
  have HC := Lib.hid (hH.cell 0 _ rfl)
  have HNE := Lib.hid hne
  have HLT := Lib.hid hH.lt
  clear h hn hba hH hne
  unfold SortPost
  go_enter Tryz.func38, Tryz.ntmps38
  go_wp2_with (go_at_call 65; (with_reducible refine HS.out.mono ?_); rintro e w2 ⟨rfl, L', hp, hs, hr, hg⟩; have c0 := hg.cell HC.out (fun e => HNE.out e.symm); have HP := Lib.hid hp; have HSS := Lib.hid hs; have HR := Lib.hid hr; have HG := Lib.hid hg; clear hp hs hr hg)
  go_ret
  refine ⟨rfl, ⟨L', HP.out, HSS.out, HR.out⟩, ?_⟩
  have hb := HB.out
  have hg := HG.out
  exact ⟨hg.os.trans hb.os, hg.tape.trans hb.tape, hg.output.trans hb.output, Nat.le_trans hb.size hg.size, fun k hk hkn => (hg.block k (by simp; omega) hkn).trans (hb.block k hk)⟩
end Go.Proofs.YtgnmolleaengaaaGreat
