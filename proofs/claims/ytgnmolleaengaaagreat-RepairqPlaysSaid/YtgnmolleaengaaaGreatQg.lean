/- The order of jobs, plain. -/
import Derived.Test.YtgnmolleaengaaaGreatQd
set_option linter.unusedVariables false
set_option linter.unusedSimpArgs false
set_option linter.unnecessarySimpa false
namespace Go.Proofs.YtgnmolleaengaaaGreat
open Go

/-- the risk in twelfths -/
def rk (j : Jb) : Nat := j.n * (12 / j.d)
theorem four_of {d : Nat} (h1 : 1 ≤ d) (h2 : d ≤ 4) : d = 1 ∨ d = 2 ∨ d = 3 ∨ d = 4 := by omega
theorem rk_lt {a b : Jb} (ha : OkJ a) (hb : OkJ b) : a.n * b.d < b.n * a.d ↔ rk a < rk b := by
  obtain ⟨-, -, -, -, -, a1, a2⟩ := ha
  obtain ⟨-, -, -, -, -, b1, b2⟩ := hb
  unfold rk
  rcases four_of a1 a2 with h | h | h | h <;> rcases four_of b1 b2 with h' | h' | h' | h' <;> rw [h, h'] <;> simp only [Nat.reduceDiv] <;> omega
def Lx (a b : Jb) : Prop := a.cls < b.cls ∨ a.cls = b.cls ∧ (rk b < rk a ∨ rk b = rk a ∧ (a.rem < b.rem ∨ a.rem = b.rem ∧ (a.vol < b.vol ∨ a.vol = b.vol ∧ a.frag < b.frag)))
theorem lt_iff {a b : Jb} (ha : OkJ a) (hb : OkJ b) : ordJ a b < 0 ↔ Lx a b := by
  have h1 := rk_lt ha hb
  have h2 := rk_lt hb ha
  unfold ordJ cmpJ Lx
  generalize a.n * b.d = P at *
  generalize b.n * a.d = Q at *
  generalize rk a = x at *
  generalize rk b = y at *
  split
  · omega
  · rename_i e1
    by_cases e2 : Q < P
    · simp [e2]
      omega
    · by_cases e3 : P < Q
      · simp [e2, e3]
        omega
      · simp only [e2, e3, if_false]
        rw [if_neg (by omega)]
        split
        · omega
        · split
          · omega
          · omega
theorem ltE_iff {x y : En} (hx : OkJ x.j) (hy : OkJ y.j) : ltE x y = true ↔ Lx x.j y.j := by
  unfold ltE
  rw [decide_eq_true_eq]
  exact lt_iff hx hy
theorem Lx.irr (a : Jb) : ¬ Lx a a := by unfold Lx; omega
theorem Lx.trans {a b c : Jb} (h : Lx a b) (h' : Lx b c) : Lx a c := by unfold Lx at *; omega
theorem Lx.total {a b : Jb} (h : (a.vol, a.frag) ≠ (b.vol, b.frag)) : Lx a b ∨ Lx b a := by
  unfold Lx
  have : ¬ (a.vol = b.vol ∧ a.frag = b.frag) := fun e => h (by rw [e.1, e.2])
  omega
theorem Lx.asymm {a b : Jb} (h : Lx a b) : ¬ Lx b a := by unfold Lx at *; omega
/-- equivalence is transitive -/
theorem Lx.eqv {a b c : Jb} (h1 : ¬ Lx a b) (h2 : ¬ Lx b c) : ¬ Lx a c := by unfold Lx at *; omega
end Go.Proofs.YtgnmolleaengaaaGreat

/- sort.SliceStable at the queue's row. -/
namespace Go.Proofs.YtgnmolleaengaaaGreat
open Go Go.Shelf Go.RowKit Go.Lib
open Go.Sort (HoldsK putRowK SWO)

/-- entries whose risks can be read in w -/
abbrev Ea (w : World) := { x : En // FrR w x }
def encA {w : World} (x : Ea w) : List Value := (ec x.1).toList
theorem encA_len {w : World} (x : Ea w) : (encA x).length = 9 := rfl
theorem encA_one {w : World} (x : Ea w) : ∀ v ∈ encA x, v.oneCell' = true := fun v hv => by
  simp [encA] at hv
  rcases hv with rfl | rfl | rfl | rfl | rfl | rfl | rfl | rfl | rfl <;> rfl
def ltA {w : World} (x y : Ea w) : Bool := ltE x.1 y.1
theorem ltA_iff {w : World} (x y : Ea w) : ltA x y = true ↔ Lx x.1.j y.1.j := ltE_iff x.2.ok y.2.ok
theorem ltA_not {w : World} (x y : Ea w) : ltA x y = false ↔ ¬ Lx x.1.j y.1.j := by rw [← ltA_iff]; simp
theorem swoA (w : World) : SWO (ltA (w := w)) := by
  refine ⟨fun x => (ltA_not x x).2 (Lx.irr _), fun x y z h1 h2 => (ltA_iff x z).2 (((ltA_iff x y).1 h1).trans ((ltA_iff y z).1 h2)), fun x y z h1 h2 => (ltA_not x z).2 (Lx.eqv ((ltA_not x y).1 h1) ((ltA_not y z).1 h2))⟩

theorem FrR.only {w w' : World} {x : En} {g : Nat} (h : FrR w x) (hg : TyB w g 76) (ho : Only [g] w w') : FrR w' x :=
  have hS : ∀ s ∈ [g], ∃ t, TyB w s t ∧ t ≠ 94 := fun s hs => ⟨76, by rw [List.mem_singleton.1 hs]; exact hg, by decide⟩
  ⟨h.num.only ho hS, h.den.only ho hS, h.ok⟩

theorem en_cells {w w' : World} [Inhabited (Ea w)] {g n i : Nat} {d : Array (Ea w)} (hH : HoldsK encA 9 w' g 0 d) (hd : d.size = n) (hi : i < n) : EnAt w' g (0 + i * 9) d[i]!.1 := by
  have c : ∀ k, k < 9 → w'.cell? ⟨g, 0 + i * 9 + k, none⟩ = some (encA d[i]!)[k]! := fun k hk => (hH.cell (i := i) (c := k) (by omega) hk).1
  exact ⟨c 0 (by omega), c 1 (by omega), c 2 (by omega), c 3 (by omega), c 4 (by omega), c 5 (by omega), c 6 (by omega)⟩

theorem siK9 (n : Nat) (h : 2 ≤ n) : swapperK n siE 25 = 9 := by
  have hp : siE.hasPointers = true := by kernel_rfl
  have hb : (siE.bytes == 8) = false := by kernel_rfl
  unfold swapperK
  simp [hp, hb, show ¬ n = 0 by omega, show ¬ n = 1 by omega]
theorem swapper9 : Tryz.prog.funcs.findIdx? (·.name == "internal/reflectlite" ++ ".Swapper$" ++ toString 9) = some 89 := by kernel_rfl
theorem siE_size : siE.size = 9 := by kernel_rfl

theorem perm_of {α : Type} [Inhabited α] {d d' : Array α} (h : Go.Sort.PermIn 0 d.size d d') : d'.toList.Perm d.toList := by
  obtain ⟨h1, _, h3⟩ := h
  have e : ∀ a : Array α, a.extract 0 a.size = a := fun a => by simp
  rw [e] at h3
  rw [← h1, e] at h3
  exact h3
theorem pairs_of {α : Type} [Inhabited α] {lt : α → α → Bool} {d : Array α} {n : Nat} (hn : n = d.size) (h : Go.Sort.SortedIn lt 0 n d) : d.toList.Pairwise (fun x y => lt y x = false) := by
  subst hn
  rw [List.pairwise_iff_getElem]
  intro i j hi hj hij
  have := h i j (Nat.zero_le _) hij (by simpa using hj)
  simpa [hi, hj, getElem!_pos, show i < d.size by simpa using hi, show j < d.size by simpa using hj] using this

set_option maxHeartbeats 1000000 in
theorem stable_rows {w : World} [Inhabited (Ea w)] {qb g n cap : Nat} (d : Array (Ea w)) (hn : d.size = n) (h2 : 2 ≤ n) (h19 : n ≤ 19) (hH : HoldsK encA 9 w g 0 d) (hg : TyB w g 76) (c1 : w.cell? ⟨qb, 1, none⟩ = some (.slice (some ⟨g, 0, none⟩) n cap)) (hq : TyB w qb 68) :
    Calls Tryz.prog 36 #[.iface 66 (.slice (some ⟨g, 0, none⟩) n cap), .func (.func 37) #[.pointer (some ⟨qb, 0, none⟩)] #[]] w fun e w' => e = .returned (.tuple #[]) ∧ ∃ d' : Array (Ea w), d'.size = n ∧ d'.toList.Perm d.toList ∧ d'.toList.Pairwise (fun x y => ltA y x = false) ∧ Only [g] w w' ∧ w'.heap[g]? = (putRowK encA 9 w g 0 d').heap[g]? := by
  obtain ⟨C, c1', c2, c3, c4, c5, c6, c7, c8, c9, c10⟩ : ∃ C : SC Tryz.prog (Ea w), C.enc = encA ∧ C.k = 9 ∧ C.lt = ltA ∧ C.g = 37 ∧ C.p = .pointer (some ⟨qb, 0, none⟩) ∧ C.sf = 89 ∧ C.sb = #[.slice (some ⟨g, 0, none⟩) n cap, typeHandle Tryz.prog 76] ∧ C.blk = g ∧ C.off = 0 ∧ C.n = n :=
    ⟨{ enc := encA, k := 9, hk := encA_len, lt := ltA, g := 37, p := .pointer (some ⟨qb, 0, none⟩), sf := 89, sb := #[.slice (some ⟨g, 0, none⟩) n cap, typeHandle Tryz.prog 76], blk := g, off := 0, n := n, eg := enters_of Tryz.func37 (by kernel_rfl) rfl,
       swap := swapSwapsK_of_literal false 89 (fun args W => run_callFunc_extern Tryz.func89 (by kernel_rfl) (by kernel_rfl) (by kernel_rfl) (e := Extern.ReflectliteSwapper.swap false) (by kernel_rfl) args W) 76 siE (by kernel_rfl) encA 9 encA_len siE_size (fun _ => by kernel_rfl) encA_one g 0 n cap, hn := by omega }, rfl, rfl, rfl, rfl, rfl, rfl, rfl, rfl, rfl, rfl⟩
  have hA : At0 C w d := by
    refine ⟨hn.trans c10.symm, by rw [c8]; exact hg.lt, by rw [c1', c2, c8, c9]; exact hH, ?_⟩
    intro d' w' hr i j hi hj
    rw [c4, c5, c3]
    have hh : HoldsK C.enc C.k w' C.blk C.off d' := HoldsK.same (Go.Sort.holdsK_putRowK C.enc C.k w C.blk C.off d d' (by rw [c1', c2, c8, c9]; exact hH) (by rw [hr.size, hn, c10])) hr.at_
    have ho := hr.only
    rw [c1', c2, c8, c9] at hh
    rw [c8] at ho
    rw [c10] at hi hj
    have hs : d'.size = n := hr.size.trans c10
    have hne : qb ∉ [g] := fun hm => hq.ne hg (by decide) (List.mem_singleton.1 hm)
    have e1 := (World.cell?_of_block (a := ⟨qb, 1, none⟩) (ho.block qb hq.lt hne)).trans c1
    exact before_as e1 (Nat.lt_of_lt_of_le hq.lt ho.size) (Nat.lt_of_lt_of_le hg.lt ho.size) hi hj (by omega) (en_cells hh hs hi) (en_cells hh hs hj) (d'[i]!.2.only hg ho) (d'[j]!.2.only hg ho) rfl
  have hb1 := below_alloc w (.cells #[.slice (some ⟨g, 0, none⟩) n cap] 66)
  have hb2 : Below w.heap.size w (stableWorld Tryz.prog stable8_ren 66 (some ⟨g, 0, none⟩) n cap w) := hb1.trans ((below_alloc (w.alloc (.cells #[.slice (some ⟨g, 0, none⟩) n cap] 66)) (.cells #[.pointer (some ⟨Tryz.prog.globals.size, 66, none⟩), .pointer (some ⟨w.heap.size, 0, none⟩), .int .u64 151] (stable8_ren.t 36))).mono hb1.size)
  have hst := stable_x C d _ (hA.grow hb2) (by rw [c10]; omega)
  rw [c4, c5, c6, c7, c10, c3] at hst
  have hB : sliceBound Tryz.prog 76 siE 25 (some ⟨g, 0, none⟩) n cap = #[.slice (some ⟨g, 0, none⟩) n cap, typeHandle Tryz.prog 76] := by
    unfold sliceBound
    rw [siK9 n h2]
    rfl
  refine Any.sort_SliceStable_of_stable stable8 66 76 siT siE (by kernel_rfl) (by kernel_rfl) (by kernel_rfl) (by kernel_rfl) 25 (fun _ => by kernel_rfl) (some ⟨g, 0, none⟩) n cap (by omega) 89 (by rw [siK9 n h2]; exact swapper9) (.func 37) #[.pointer (some ⟨qb, 0, none⟩)] #[] w (fun w' => ∃ d' : Array (Ea w), d'.size = n ∧ d'.toList.Perm d.toList ∧ d'.toList.Pairwise (fun x y => ltA y x = false) ∧ Only [g] w w' ∧ w'.heap[g]? = (putRowK encA 9 w g 0 d').heap[g]?) ?_
  rw [hB]
  refine Calls.mono (show Calls Tryz.prog 63 _ _ _ from hst) ?_
  rintro e w' ⟨he, hs⟩
  have hq2 := Go.Sort.insertionSort_holds (lt := ltA (w := w)) (swoA w) d 0 n (Nat.zero_le _) (by omega)
  have hr := ((Rw.start hA.size hA.holds).grow hA.lt hb2).trans hs.rw_
  have hr2 := hr.at_
  have hr3 := hr.only
  rw [c1', c2, c8, c9] at hr2
  rw [c8] at hr3
  have hsz : (Go.Sort.insertionSort ltA d 0 n).size = n := hr.size.trans c10
  exact ⟨he, _, hsz, perm_of (by rw [hn]; exact hq2.1), pairs_of hsz.symm hq2.2, hr3, hr2⟩
end Go.Proofs.YtgnmolleaengaaaGreat

/- From an owned row of entries to a sorted one, and back. -/
namespace Go.Proofs.YtgnmolleaengaaaGreat
open Go Go.Shelf Go.RowKit Go.Lib
open Go.Sort (HoldsK putRowK SWO flatK)

theorem flat_arr {w : World} [Inhabited (Ea w)] (D : List (Ea w)) (t : Nat) (ht : t < D.length * 9) : (eE.flat (D.map Subtype.val))[t]? = some (flatK encA 9 D.toArray)[t]! := by
  rw [Go.Sort.get_flatK encA 9 D.toArray t (by simpa using ht)]
  have hi : t / 9 < D.length := by omega
  have h := flat_get (E := eE) (D.map Subtype.val) (t / 9) D[t / 9].1 (t % 9) (by simp [hi]) (Nat.mod_lt _ (by decide))
  rw [show t / 9 * eE.k + t % 9 = t by show t / 9 * 9 + t % 9 = t; omega] at h
  rw [h]
  have hk : t % 9 < 9 := Nat.mod_lt _ (by decide)
  have e1 : D.toArray[t / 9]! = D[t / 9] := by simp [hi]
  rw [e1]
  show (ec D[t / 9].1).toList[t % 9]? = some ((ec D[t / 9].1).toList)[t % 9]!
  have hl : t % 9 < (ec D[t / 9].1).toList.length := hk
  rw [List.getElem?_eq_getElem hl, List.getElem!_eq_getElem?_getD, List.getElem?_eq_getElem hl]
  rfl

theorem own_holds {w : World} [Inhabited (Ea w)] {B g n cap : Nat} (D : List (Ea w)) (h : World.ownsRow w B 76 9 (.slice (some ⟨g, 0, none⟩) n cap) n (eE.flat (D.map Subtype.val))) (hn : D.length = n) : HoldsK encA 9 w g 0 D.toArray := by
  intro j hj
  have hj' : j < D.length * 9 := by simpa using hj
  refine ⟨?_, ?_⟩
  · have := h.cells rfl j _ (flat_arr D j hj')
    rw [add_off, Nat.zero_add] at this
    rw [Nat.zero_add]
    exact this
  · rw [Nat.zero_add]
    exact h.frozenAt _

theorem reown {w w' : World} [Inhabited (Ea w)] {B g n cap : Nat} {xs : List Value} (h : World.ownsRow w B 76 9 (.slice (some ⟨g, 0, none⟩) n cap) n xs) (d' : Array (Ea w)) (hd : d'.size = n) (e : w'.heap[g]? = (putRowK encA 9 w g 0 d').heap[g]?) :
    World.ownsRow w' B 76 9 (.slice (some ⟨g, 0, none⟩) n cap) n (eE.flat (d'.toList.map Subtype.val)) := by
  obtain ⟨hl, h⟩ := h
  have hfl : (eE.flat (d'.toList.map Subtype.val)).length = n * 9 := by rw [flat_len]; simp [hd]; rfl
  refine ⟨hfl, ?_⟩
  rcases h with ⟨h0, _⟩ | ⟨g', cap', cur, he, hB, hg, h1, h2, h3, h4⟩
  · cases h0
  · cases he
    refine .inr ⟨g, cap, Go.Sort.putCells id 0 (flatK encA 9 d') cur, rfl, hB, ?_, h1, h2, ?_, ?_⟩
    · rw [e]
      unfold putRowK Go.Sort.putRow Go.Sort.mapBlock
      simp [Array.getElem?_modify, hg, Go.Sort.onCells]
    · unfold Go.Sort.putCells
      simp [h3]
    · apply List.ext_getElem?
      intro t
      rw [List.getElem?_take]
      have hn9 : n * 9 ≤ cur.size := by rw [h3]; exact Nat.mul_le_mul_right 9 h1
      split
      · rename_i ht
        have ht2 : t < d'.toList.length * 9 := by simp [hd]; exact ht
        have hf := flat_arr d'.toList t ht2
        rw [hf]
        have hsz : t < (flatK encA 9 d').size := by simp [hd]; exact ht
        unfold Go.Sort.putCells
        simp only [Array.getElem?_toList, Array.getElem?_mapIdx]
        rw [Array.getElem?_eq_getElem (show t < cur.size by omega)]
        simp [hd, ht]
      · rename_i ht
        rw [List.getElem?_eq_none (by omega)]
end Go.Proofs.YtgnmolleaengaaaGreat
