/- sort.SliceStable at the queue's row. -/
import Derived.Test.YtgnmolleaengaaaQe
set_option linter.unusedVariables false
set_option linter.unusedSimpArgs false
set_option linter.unnecessarySimpa false
namespace Go.Proofs.Ytgnmolleaengaaa
open Go Go.Shelf Go.RowKit Go.Lib
open Go.Sort (HoldsK putRowK SWO)

/-- entries whose risks can be read in w -/
abbrev Ea (w : World) := { x : En // FrR w x }
def encA {w : World} (x : Ea w) : List Value := (ec x.1).toList
theorem encA_len {w : World} (x : Ea w) : (encA x).length = 9 := rfl
theorem encA_one {w : World} (x : Ea w) : ∀ v ∈ encA x, v.oneCell' = true := fun v hv => by
  simp [encA] at hv
  rcases hv with rfl | rfl | rfl | rfl | rfl | rfl | rfl | rfl | rfl <;> rfl
def ltA {w : World} (x y : Ea w) : Bool := ltE x.1 y.1
theorem ltA_iff {w : World} (x y : Ea w) : ltA x y = true ↔ Lx x.1.j y.1.j := ltE_iff x.2.ok y.2.ok
theorem ltA_not {w : World} (x y : Ea w) : ltA x y = false ↔ ¬ Lx x.1.j y.1.j := by rw [← ltA_iff]; simp
theorem swoA (w : World) : SWO (ltA (w := w)) := by
  refine ⟨fun x => (ltA_not x x).2 (Lx.irr _), fun x y z h1 h2 => (ltA_iff x z).2 (((ltA_iff x y).1 h1).trans ((ltA_iff y z).1 h2)), fun x y z h1 h2 => (ltA_not x z).2 (Lx.eqv ((ltA_not x y).1 h1) ((ltA_not y z).1 h2))⟩

theorem FrR.only {w w' : World} {x : En} {g : Nat} (h : FrR w x) (hg : TyB w g 60) (ho : Only [g] w w') : FrR w' x :=
  have hS : ∀ s ∈ [g], ∃ t, TyB w s t ∧ t ≠ 76 := fun s hs => ⟨60, by rw [List.mem_singleton.1 hs]; exact hg, by decide⟩
  ⟨h.num.only ho hS, h.den.only ho hS, h.ok⟩

theorem en_cells {w w' : World} [Inhabited (Ea w)] {g n i : Nat} {d : Array (Ea w)} (hH : HoldsK encA 9 w' g 0 d) (hd : d.size = n) (hi : i < n) : EnAt w' g (0 + i * 9) d[i]!.1 := by
  have c : ∀ k, k < 9 → w'.cell? ⟨g, 0 + i * 9 + k, none⟩ = some (encA d[i]!)[k]! := fun k hk => (hH.cell (i := i) (c := k) (by omega) hk).1
  exact ⟨c 0 (by omega), c 1 (by omega), c 2 (by omega), c 3 (by omega), c 4 (by omega), c 5 (by omega), c 6 (by omega)⟩

theorem siK9 (n : Nat) (h : 2 ≤ n) : swapperK n siE 25 = 9 := by
  have hp : siE.hasPointers = true := by kernel_rfl
  have hb : (siE.bytes == 8) = false := by kernel_rfl
  unfold swapperK
  simp [hp, hb, show ¬ n = 0 by omega, show ¬ n = 1 by omega]
theorem swapper9 : Try.prog.funcs.findIdx? (·.name == "internal/reflectlite" ++ ".Swapper$" ++ toString 9) = some 58 := by kernel_rfl
theorem siE_size : siE.size = 9 := by kernel_rfl

theorem perm_of {α : Type} [Inhabited α] {d d' : Array α} (h : Go.Sort.PermIn 0 d.size d d') : d'.toList.Perm d.toList := by
  obtain ⟨h1, _, h3⟩ := h
  have e : ∀ a : Array α, a.extract 0 a.size = a := fun a => by simp
  rw [e] at h3
  rw [← h1, e] at h3
  exact h3
theorem pairs_of {α : Type} [Inhabited α] {lt : α → α → Bool} {d : Array α} {n : Nat} (hn : n = d.size) (h : Go.Sort.SortedIn lt 0 n d) : d.toList.Pairwise (fun x y => lt y x = false) := by
  subst hn
  rw [List.pairwise_iff_getElem]
  intro i j hi hj hij
  have := h i j (Nat.zero_le _) hij (by simpa using hj)
  simpa [hi, hj, getElem!_pos, show i < d.size by simpa using hi, show j < d.size by simpa using hj] using this

set_option maxHeartbeats 1000000 in
theorem stable_rows {w : World} [Inhabited (Ea w)] {qb g n cap : Nat} (d : Array (Ea w)) (hn : d.size = n) (h2 : 2 ≤ n) (h19 : n ≤ 19) (hH : HoldsK encA 9 w g 0 d) (hg : TyB w g 60) (c1 : w.cell? ⟨qb, 1, none⟩ = some (.slice (some ⟨g, 0, none⟩) n cap)) (hq : TyB w qb 55) :
    Calls Try.prog 23 #[.iface 53 (.slice (some ⟨g, 0, none⟩) n cap), .func (.func 24) #[.pointer (some ⟨qb, 0, none⟩)] #[]] w fun e w' => e = .returned (.tuple #[]) ∧ ∃ d' : Array (Ea w), d'.size = n ∧ d'.toList.Perm d.toList ∧ d'.toList.Pairwise (fun x y => ltA y x = false) ∧ Only [g] w w' ∧ w'.heap[g]? = (putRowK encA 9 w g 0 d').heap[g]? := by
  obtain ⟨C, c1', c2, c3, c4, c5, c6, c7, c8, c9, c10⟩ : ∃ C : SC Try.prog (Ea w), C.enc = encA ∧ C.k = 9 ∧ C.lt = ltA ∧ C.g = 24 ∧ C.p = .pointer (some ⟨qb, 0, none⟩) ∧ C.sf = 58 ∧ C.sb = #[.slice (some ⟨g, 0, none⟩) n cap, typeHandle Try.prog 60] ∧ C.blk = g ∧ C.off = 0 ∧ C.n = n :=
    ⟨{ enc := encA, k := 9, hk := encA_len, lt := ltA, g := 24, p := .pointer (some ⟨qb, 0, none⟩), sf := 58, sb := #[.slice (some ⟨g, 0, none⟩) n cap, typeHandle Try.prog 60], blk := g, off := 0, n := n, eg := enters_of Try.func24 (by kernel_rfl) rfl,
       swap := swapSwapsK_of_literal false 58 (fun args W => run_callFunc_extern Try.func58 (by kernel_rfl) (by kernel_rfl) (by kernel_rfl) (e := Extern.ReflectliteSwapper.swap false) (by kernel_rfl) args W) 60 siE (by kernel_rfl) encA 9 encA_len siE_size (fun _ => by kernel_rfl) encA_one g 0 n cap, hn := by omega }, rfl, rfl, rfl, rfl, rfl, rfl, rfl, rfl, rfl, rfl⟩
  have hA : At0 C w d := by
    refine ⟨hn.trans c10.symm, by rw [c8]; exact hg.lt, by rw [c1', c2, c8, c9]; exact hH, ?_⟩
    intro d' w' hr i j hi hj
    rw [c4, c5, c3]
    have hh : HoldsK C.enc C.k w' C.blk C.off d' := HoldsK.same (Go.Sort.holdsK_putRowK C.enc C.k w C.blk C.off d d' (by rw [c1', c2, c8, c9]; exact hH) (by rw [hr.size, hn, c10])) hr.at_
    have ho := hr.only
    rw [c1', c2, c8, c9] at hh
    rw [c8] at ho
    rw [c10] at hi hj
    have hs : d'.size = n := hr.size.trans c10
    have hne : qb ∉ [g] := fun hm => hq.ne hg (by decide) (List.mem_singleton.1 hm)
    have e1 := (World.cell?_of_block (a := ⟨qb, 1, none⟩) (ho.block qb hq.lt hne)).trans c1
    exact before_as e1 (Nat.lt_of_lt_of_le hq.lt ho.size) (Nat.lt_of_lt_of_le hg.lt ho.size) hi hj (by omega) (en_cells hh hs hi) (en_cells hh hs hj) (d'[i]!.2.only hg ho) (d'[j]!.2.only hg ho) rfl
  have hb1 := below_alloc w (.cells #[.slice (some ⟨g, 0, none⟩) n cap] 53)
  have hb2 : Below w.heap.size w (stableWorld Try.prog stable8_ren 53 (some ⟨g, 0, none⟩) n cap w) := hb1.trans ((below_alloc (w.alloc (.cells #[.slice (some ⟨g, 0, none⟩) n cap] 53)) (.cells #[.pointer (some ⟨Try.prog.globals.size, 53, none⟩), .pointer (some ⟨w.heap.size, 0, none⟩), .int .u64 151] (stable8_ren.t 36))).mono hb1.size)
  have hst := stable_x C d _ (hA.grow hb2) (by rw [c10]; omega)
  rw [c4, c5, c6, c7, c10, c3] at hst
  have hB : sliceBound Try.prog 60 siE 25 (some ⟨g, 0, none⟩) n cap = #[.slice (some ⟨g, 0, none⟩) n cap, typeHandle Try.prog 60] := by
    unfold sliceBound
    rw [siK9 n h2]
    rfl
  refine Any.sort_SliceStable_of_stable stable8 53 60 siT siE (by kernel_rfl) (by kernel_rfl) (by kernel_rfl) (by kernel_rfl) 25 (fun _ => by kernel_rfl) (some ⟨g, 0, none⟩) n cap (by omega) 58 (by rw [siK9 n h2]; exact swapper9) (.func 24) #[.pointer (some ⟨qb, 0, none⟩)] #[] w (fun w' => ∃ d' : Array (Ea w), d'.size = n ∧ d'.toList.Perm d.toList ∧ d'.toList.Pairwise (fun x y => ltA y x = false) ∧ Only [g] w w' ∧ w'.heap[g]? = (putRowK encA 9 w g 0 d').heap[g]?) ?_
  rw [hB]
  refine Calls.mono (show Calls Try.prog 36 _ _ _ from hst) ?_
  rintro e w' ⟨he, hs⟩
  have hq2 := Go.Sort.insertionSort_holds (lt := ltA (w := w)) (swoA w) d 0 n (Nat.zero_le _) (by omega)
  have hr := ((Rw.start hA.size hA.holds).grow hA.lt hb2).trans hs.rw_
  have hr2 := hr.at_
  have hr3 := hr.only
  rw [c1', c2, c8, c9] at hr2
  rw [c8] at hr3
  have hsz : (Go.Sort.insertionSort ltA d 0 n).size = n := hr.size.trans c10
  exact ⟨he, _, hsz, perm_of (by rw [hn]; exact hq2.1), pairs_of hsz.symm hq2.2, hr3, hr2⟩
end Go.Proofs.Ytgnmolleaengaaa
