/- sort.Slice with a closure that may lay blocks: the worlds that the sort passes through. -/
import Derived.Test.YtnhpjmjinchamaaMs
import Derived.Shelf.SlSortFuncK.WholeK
set_option linter.unusedVariables false
set_option linter.unusedSimpArgs false
set_option linter.unnecessarySimpa false
namespace Go.Proofs.Ytnhpjmjinchamaa
open Go Go.Shelf Go.RowKit Go.Lib
open Go.Sort (swp HoldsK putRowK holdsK_putRowK putRowK_self putRowK_swp size_putRowK size_swp)

section
variable {P : Program} {ρ : Ren} {α : Type} [Inhabited α]

/-- what stays while a sort runs: the row's place, the closure, the swapper -/
structure SC (P : Program) (α : Type) [Inhabited α] where
  enc : α → List Value
  k : Nat
  hk : ∀ x, (enc x).length = k
  lt : α → α → Bool
  g : Nat
  lb : Array Value
  sf : Nat
  sb : Array Value
  blk : Nat
  off : Nat
  n : Nat
  eg : ∀ args w, (callFunc g args).run P w = .ok (.enter g args) w
  swap : SwapSwapsK P sf sb enc k blk off n
  hn : n < 4611686018427387904

/-- only the row has turned: it holds d -/
structure Rw (C : SC P α) (w0 : World) (d : Array α) (w : World) : Prop where
  size : d.size = C.n
  only : Only [C.blk] w0 w
  at_ : w.heap[C.blk]? = (putRowK C.enc C.k w0 C.blk C.off d).heap[C.blk]?
/-- the closure, in every world that the sort passes through -/
def Le (C : SC P α) (w0 : World) : Prop := ∀ (d : Array α) (w : World), Rw C w0 d w → ∀ i j : Nat, i < C.n → j < C.n →
  Calls P C.g (#[.int .i64 i, .int .i64 j] ++ C.lb) w fun e w' => e = .returned (.bool (C.lt d[i]! d[j]!)) ∧ Below w.heap.size w w'
/-- a world in which the sort may begin -/
structure At0 (C : SC P α) (w : World) (d : Array α) : Prop where
  size : d.size = C.n
  lt : C.blk < w.heap.size
  holds : HoldsK C.enc C.k w C.blk C.off d
  less : Le C w
structure Sv (C : SC P α) (w0 : World) (d : Array α) (w : World) : Prop where
  rw_ : Rw C w0 d w
  at0 : At0 C w d

theorem heap_putRow (C : SC P α) (w : World) (d : Array α) : (putRowK C.enc C.k w C.blk C.off d).heap[C.blk]? = (w.heap[C.blk]?).map (Go.Sort.onCells (Go.Sort.putCells id C.off (Go.Sort.flatK C.enc C.k d))) := by
  unfold putRowK Go.Sort.putRow Go.Sort.mapBlock
  simp [Array.getElem?_modify]
theorem putRow_twice (C : SC P α) (w : World) (d d' : Array α) (h : d'.size = d.size) : putRowK C.enc C.k (putRowK C.enc C.k w C.blk C.off d) C.blk C.off d' = putRowK C.enc C.k w C.blk C.off d' :=
  Go.Sort.putRow_putRow id w C.blk C.off _ _ (by simp [h])
theorem only_putRow (C : SC P α) (w : World) (d : Array α) : Only [C.blk] w (putRowK C.enc C.k w C.blk C.off d) :=
  ⟨rfl, rfl, rfl, by rw [size_putRowK]; exact Nat.le_refl _, fun j hj hs => by
    show (w.heap.modify C.blk _)[j]? = _
    have : C.blk ≠ j := fun e => hs (by simp [e])
    simp [Array.getElem?_modify, this]⟩
theorem Rw.start {C : SC P α} {w : World} {d : Array α} (hs : d.size = C.n) (h : HoldsK C.enc C.k w C.blk C.off d) : Rw C w d w := ⟨hs, Only.refl _ _, by rw [putRowK_self _ _ _ _ _ _ h]⟩
theorem Rw.trans {C : SC P α} {w0 w w' : World} {d d' : Array α} (h : Rw C w0 d w) (h' : Rw C w d' w') : Rw C w0 d' w' := by
  refine ⟨h'.size, h.only.trans h'.only, ?_⟩
  rw [h'.at_, heap_putRow, h.at_, ← heap_putRow, putRow_twice C w0 d d' (by rw [h'.size, h.size])]
theorem Rw.grow {C : SC P α} {w0 w w' : World} {d : Array α} (h : Rw C w0 d w) (hl : C.blk < w.heap.size) (hb : Below w.heap.size w w') : Rw C w0 d w' :=
  ⟨h.size, h.only.trans (Only.of_below _ hb), (hb.block _ hl).trans h.at_⟩
theorem HoldsK.same {C : SC P α} {w w' : World} {d : Array α} (h : HoldsK C.enc C.k w C.blk C.off d) (e : w'.heap[C.blk]? = w.heap[C.blk]?) : HoldsK C.enc C.k w' C.blk C.off d := fun j hj =>
  ⟨(World.cell?_of_block (w := w) (a := ⟨C.blk, C.off + j, none⟩) e).trans (h j hj).1, (World.frozen?_of_block (w := w) (a := ⟨C.blk, C.off + j, none⟩) e).trans (h j hj).2⟩
theorem Le.on {C : SC P α} {w0 w : World} {d : Array α} (h : Le C w0) (hr : Rw C w0 d w) : Le C w := fun d' w' hr' => h d' w' (hr.trans hr')
theorem At0.grow {C : SC P α} {w w' : World} {d : Array α} (h : At0 C w d) (hb : Below w.heap.size w w') : At0 C w' d :=
  ⟨h.size, Nat.lt_of_lt_of_le h.lt hb.size, HoldsK.same h.holds (hb.block _ h.lt), h.less.on ((Rw.start h.size h.holds).grow h.lt hb)⟩
theorem At0.put {C : SC P α} {w w' : World} {d d' : Array α} (h : At0 C w d) (hr : Rw C w d' w') : At0 C w' d' :=
  ⟨hr.size, Nat.lt_of_lt_of_le h.lt hr.only.size, HoldsK.same (holdsK_putRowK C.enc C.k w C.blk C.off d d' h.holds (by rw [hr.size, h.size])) hr.at_, h.less.on hr⟩
theorem Sv.start {C : SC P α} {w : World} {d : Array α} (h : At0 C w d) : Sv C w d w := ⟨Rw.start h.size h.holds, h⟩
theorem Sv.grow {C : SC P α} {w0 w w' : World} {d : Array α} (h : Sv C w0 d w) (hb : Below w.heap.size w w') : Sv C w0 d w' := ⟨h.rw_.grow h.at0.lt hb, h.at0.grow hb⟩
theorem Sv.trans {C : SC P α} {w0 w w' : World} {d d' : Array α} (h : Sv C w0 d w) (h' : Sv C w d' w') : Sv C w0 d' w' := ⟨h.rw_.trans h'.rw_, h'.at0⟩
theorem Sv.swap {C : SC P α} {w0 w : World} {d : Array α} (h : Sv C w0 d w) {i j : Nat} (hi : i < C.n) (hj : j < C.n) :
    ∃ w', (callFunc C.sf (#[.int .i64 i, .int .i64 j] ++ C.sb)).run P w = .ok (.value (.tuple #[])) w' ∧ Sv C w0 (swp d i j) w' ∧ Only [C.blk] w w' := by
  have hd := h.at0.size
  have e := C.swap w d h.at0.holds hd i j hi hj
  have e2 := putRowK_swp C.enc C.k C.hk w C.blk C.off d i j (by omega) (by omega)
  rw [putRowK_self _ _ _ _ _ _ h.at0.holds] at e2
  rw [e2] at e
  have hr : Rw C w (swp d i j) (putRowK C.enc C.k w C.blk C.off (swp d i j)) := ⟨by rw [size_swp]; exact hd, only_putRow _ _ _, rfl⟩
  exact ⟨_, e, ⟨h.rw_.trans hr, h.at0.put hr⟩, hr.only⟩
/-- from a contract that tells the world -/
theorem Sv.of_world {C : SC P α} {w : World} {d d' : Array α} (h : At0 C w d) (hs : d'.size = C.n) {w' : World} (hw : ∃ n os, w' = sortWorldK C.enc C.k w C.blk C.off n d' os) : Sv C w d' w' := by
  obtain ⟨n, os, rfl⟩ := hw
  have hr : Rw C w d' (sortWorldK C.enc C.k w C.blk C.off n d' os) := by
    unfold sortWorldK
    have h1 : Rw C w d' (putRowK C.enc C.k (Go.Sort.ahead w n) C.blk C.off d') := by
      have ho := only_putRow C (Go.Sort.ahead w n) d'
      exact ⟨hs, ⟨ho.os, ho.tape, ho.output, ho.size, ho.block⟩, by rw [heap_putRow, heap_putRow]; rfl⟩
    refine h1.grow (by rw [size_putRowK]; exact h.lt) ?_
    exact ⟨rfl, rfl, rfl, by rw [Go.Sort.size_grow]; omega, fun j hj => by
      show ((putRowK C.enc C.k (Go.Sort.ahead w n) C.blk C.off d').heap ++ os)[j]? = _
      rw [Array.getElem?_append_left hj]⟩
  exact ⟨hr, h.put hr⟩

/-- .. with the walk's own block b of the closure and the swapper -/
structure Bx (C : SC P α) (w0 : World) (b : Nat) (d : Array α) (w : World) : Prop where
  sv : Sv C w0 d w
  ne : b ≠ C.blk
  b0 : w.cell? ⟨b, 0, none⟩ = some (.func (.func C.g) #[] C.lb)
  b1 : w.cell? ⟨b, 1, none⟩ = some (.func (.func C.sf) #[] C.sb)
  blt : b < w.heap.size
theorem Bx.enter {C : SC P α} {w : World} {d : Array α} (h : At0 C w d) (t : TypeId) : Bx C w w.heap.size d (w.alloc (.cells #[.func (.func C.g) #[] C.lb, .func (.func C.sf) #[] C.sb] t)) :=
  ⟨(Sv.start h).grow (below_alloc _ _), by have := h.lt; omega, by simp, by simp, by simp⟩
theorem Bx.size {C : SC P α} {w0 w : World} {b : Nat} {d : Array α} (h : Bx C w0 b d w) : d.size = C.n := h.sv.at0.size
theorem Bx.base {C : SC P α} {w0 w : World} {b : Nat} {d : Array α} (h : Bx C w0 b d w) : At0 C w d := h.sv.at0
theorem Bx.grow {C : SC P α} {w0 w w' : World} {b : Nat} {d : Array α} (h : Bx C w0 b d w) (hb : Below w.heap.size w w') : Bx C w0 b d w' :=
  ⟨h.sv.grow hb, h.ne, (hb.cell (p := ⟨b, 0, none⟩) h.blt).trans h.b0, (hb.cell (p := ⟨b, 1, none⟩) h.blt).trans h.b1, Nat.lt_of_lt_of_le h.blt hb.size⟩
theorem Bx.only {C : SC P α} {w0 w w' : World} {b : Nat} {d d' : Array α} (h : Bx C w0 b d w) (hs : Sv C w0 d' w') (ho : Only [C.blk] w w') : Bx C w0 b d' w' := by
  have e := ho.block b h.blt (by simp [h.ne])
  exact ⟨hs, h.ne, (World.cell?_of_block (w := w) (a := ⟨b, 0, none⟩) e).trans h.b0, (World.cell?_of_block (w := w) (a := ⟨b, 1, none⟩) e).trans h.b1, Nat.lt_of_lt_of_le h.blt ho.size⟩
theorem Bx.call {C : SC P α} {w0 w w' : World} {b : Nat} {d d' : Array α} (h : Bx C w0 b d w) (hs : Sv C w d' w') : Bx C w0 b d' w' := h.only (h.sv.trans hs) hs.rw_.only
theorem Bx.drew {C : SC P α} {w0 w : World} {b : Nat} {d : Array α} (h : Bx C w0 b d w) : Bx C w0 b d { w with drawn := w.drawn + 1 } := h.grow (Below.refl _ _).drew
theorem Bx.less {C : SC P α} {w0 w : World} {b : Nat} {d : Array α} (h : Bx C w0 b d w) {x y : Int} {i j : Nat} (hx : x = i) (hy : y = j) (hi : i < C.n) (hj : j < C.n) {v : Bool} (hv : C.lt d[i]! d[j]! = v) :
    Calls P C.g (#[.int .i64 x, .int .i64 y] ++ C.lb) w fun e w' => e = .returned (.bool v) ∧ Bx C w0 b d w' := by
  subst hx hy hv
  exact (h.base.less d w (Rw.start h.size h.base.holds) i j hi hj).mono fun e w' ⟨he, hb⟩ => ⟨he, h.grow hb⟩
theorem Bx.swap {C : SC P α} {w0 w : World} {b : Nat} {d : Array α} (h : Bx C w0 b d w) {x y : Int} {i j : Nat} (hx : x = i) (hy : y = j) (hi : i < C.n) (hj : j < C.n) :
    ∃ w', (callFunc C.sf (#[.int .i64 x, .int .i64 y] ++ C.sb)).run P w = .ok (.value (.tuple #[])) w' ∧ Bx C w0 b (swp d i j) w' := by
  subst hx hy
  obtain ⟨w', e, hs, ho⟩ := h.sv.swap hi hj
  exact ⟨w', e, h.only hs ho⟩
end
end Go.Proofs.Ytnhpjmjinchamaa

/- sort.insertionSort_func with a closure that may lay blocks. -/
namespace Go.Proofs.Ytnhpjmjinchamaa
open Go Go.Shelf Go.RowKit Go.Lib
open Go.Sort (swp size_swp insOuter insInner)
variable {P : Program} {ρ : Ren} {α : Type} [Inhabited α]


set_option maxHeartbeats 4000000 in
set_option maxRecDepth 100000 in
theorem insertion_x (L : LaysGg.n26 P ρ) (C : SC P α) (a b : Nat) (d : Array α) (w : World) (h : At0 C w d) (hab : a ≤ b) (hb : b ≤ C.n) :
    Calls P (ρ.f 26) #[.agg #[.func (.func C.g) #[] C.lb, .func (.func C.sf) #[] C.sb], .int .i64 a, .int .i64 b] w fun e w' => e = .returned (.tuple #[]) ∧ Sv C w (Go.Sort.insertionSort C.lt d a b) w' := by
  (have mixed := L.mixed; have t0 := L.t0; have a0 := L.a0; have z0 := L.z0; have v0 := L.v0; have t3 := L.t3; have a3 := L.a3; have z3 := L.z3; have v3 := L.v3; have t4 := L.t4; have a4 := L.a4; have z4 := L.z4; have v4 := L.v4; have t26 := L.t26; have a26 := L.a26; have z26 := L.z26; have v26 := L.v26; have t37 := L.t37; have a37 := L.a37; have z37 := L.z37; have v37 := L.v37; have t44 := L.t44; have a44 := L.a44; have z44 := L.z44; have v44 := L.v44; have u44 := run_underlying L.t44; have eg := C.eg)
  have hn := C.hn
  have HB0 := Lib.hid (Bx.enter h (ρ.t 44))
  clear h
  go_enter L.f26, BodyGg.n26_ntmps ρ
  go_wp2
  go_loopw [6] (fun vi wr => ∃ (i : Nat) (dk : Array α), vi = .int .i64 i ∧ a < i ∧ i ≤ b + 1 ∧ Hid (Bx C w w.heap.size dk wr) ∧ Hid (insOuter C.lt a b i dk = insOuter C.lt a b (a + 1) d)) (fun vi _ => b + 1 - (intOf vi).toNat)
  case atStart => exact ⟨a + 1, d, by go_num, by omega, by omega, HB0, Lib.hid rfl⟩
  case round =>
    rename World => wr
    obtain ⟨i, dk, rfl, hai, hib, HB, HO⟩ := hrel
    by_cases hlt : i < b
    · go_wp2
      go_loopw [7] (fun vj wq => ∃ (j : Nat) (dj : Array α), vj = .int .i64 j ∧ a ≤ j ∧ j ≤ i ∧ Hid (Bx C w w.heap.size dj wq) ∧ Hid (insInner C.lt a j dj = insInner C.lt a i dk)) (fun vj _ => (intOf vj).toNat)
      case atStart => exact ⟨i, dk, rfl, by omega, Nat.le_refl _, HB, Lib.hid rfl⟩
      case round =>
        rename World => wq
        obtain ⟨j, dj, rfl, haj, hji, HBJ, HI⟩ := hrel
        have c0 := HBJ.out.b0
        have c1 := HBJ.out.b1
        have OUT : ∀ we, Hid (Bx C w w.heap.size dj we) → (j ≤ a ∨ C.lt dj[j]! dj[j - 1]! = false) → ∃ (i' : Nat) (dk' : Array α), Value.int .i64 ((i : Int) + 1) = .int .i64 (i' : Nat) ∧ a < i' ∧ i' ≤ b + 1 ∧ Hid (Bx C w w.heap.size dk' we) ∧ Hid (insOuter C.lt a b i' dk' = insOuter C.lt a b (a + 1) d) := fun we hw hs =>
          ⟨i + 1, dj, by go_num, by omega, by omega, hw, Lib.hid (by rw [← HO.out, insOuter_go _ _ _ _ _ hlt, ← HI.out, insInner_stop _ _ _ _ hs])⟩
        have OUT := Lib.hid OUT
        by_cases hja : a < j
        · cases hlv : C.lt dj[j]! dj[j - 1]! with
          | true =>
            have hl := HBJ.out.less (x := (j : Int)) (y := (j : Int) - 1) (i := j) (j := j - 1) rfl (by omega) (by omega) (by omega) hlv
            go_wp2_with (go_at_fn C.g; refine hl.mono ?_; rintro e w1 ⟨rfl, hb1⟩; have d0 := hb1.b0; have d1 := hb1.b1; obtain ⟨w2, hs, hb2⟩ := hb1.swap (x := (j : Int)) (y := (j : Int) - 1) (i := j) (j := j - 1) rfl (by omega) (by omega) (by omega); have HB2 := Lib.hid hb2; clear hb1 hb2)
            go_roundw
            case rel => exact ⟨j - 1, swp dj j (j - 1), by congr 1; omega, by omega, by omega, HB2, Lib.hid (by rw [← HI.out, insInner_go C.lt a j dj hja hlv])⟩
            case measure => simp [intOf]; omega
          | false =>
            have hl := HBJ.out.less (x := (j : Int)) (y := (j : Int) - 1) (i := j) (j := j - 1) rfl (by omega) (by omega) (by omega) hlv
            go_wp2_with (go_at_fn C.g; refine hl.mono ?_; rintro e w1 ⟨rfl, hb1⟩; have HB1 := Lib.hid hb1; clear hb1)
            go_roundw
            case rel => exact OUT.out _ HB1 (Or.inr hlv)
            case measure => simp [intOf]; omega
        · go_wp2
          go_roundw
          case rel => exact OUT.out _ HBJ (Or.inl (by omega))
          case measure => simp [intOf]; omega
    · go_wp2
      go_end0
      refine ⟨rfl, ?_⟩
      have e : Go.Sort.insertionSort C.lt d a b = dk := by
        unfold Go.Sort.insertionSort
        rw [← HO.out, insOuter_stop C.lt a b i dk hlt]
      rw [e]
      exact HB.out.sv
end Go.Proofs.Ytnhpjmjinchamaa

/- sort.siftDown_func and sort.heapSort_func with a closure that may lay blocks. -/
namespace Go.Proofs.Ytnhpjmjinchamaa
open Go Go.Shelf Go.RowKit Go.Lib
open Go.Sort (swp size_swp siftDown heapBuild heapPop heapSort sd_end sd_right_go sd_right_stop sd_left_go sd_left_stop size_siftDown)
variable {P : Program} {ρ : Ren} {α : Type} [Inhabited α]




set_option maxHeartbeats 8000000 in
set_option maxRecDepth 1000000 in
theorem sift_x (L : LaysGg.n34 P ρ) (C : SC P α) (lo hi first : Nat) (d : Array α) (w : World) (h : At0 C w d) (hlo : lo ≤ hi) (hb : first + hi ≤ C.n) :
    Calls P (ρ.f 34) #[.agg #[.func (.func C.g) #[] C.lb, .func (.func C.sf) #[] C.sb], .int .i64 lo, .int .i64 hi, .int .i64 first] w fun e w' => e = .returned (.tuple #[]) ∧ Sv C w (siftDown C.lt hi first lo d) w' := by
  (have mixed := L.mixed; have t0 := L.t0; have a0 := L.a0; have z0 := L.z0; have v0 := L.v0; have t3 := L.t3; have a3 := L.a3; have z3 := L.z3; have v3 := L.v3; have t4 := L.t4; have a4 := L.a4; have z4 := L.z4; have v4 := L.v4; have t26 := L.t26; have a26 := L.a26; have z26 := L.z26; have v26 := L.v26; have t37 := L.t37; have a37 := L.a37; have z37 := L.z37; have v37 := L.v37; have t44 := L.t44; have a44 := L.a44; have z44 := L.z44; have v44 := L.v44; have u44 := run_underlying L.t44; have eg := C.eg)
  have hn := C.hn
  have HB0 := Lib.hid (Bx.enter h (ρ.t 44))
  clear h
  go_enter L.f34, BodyGg.n34_ntmps ρ
  go_wp2
  go_loopw [8] (fun s wr => ∃ (root : Nat) (dk : Array α), s = .int .i64 root ∧ root ≤ hi ∧ Hid (Bx C w w.heap.size dk wr) ∧ Hid (siftDown C.lt hi first root dk = siftDown C.lt hi first lo d)) (fun s _ => hi - (intOf s).toNat)
  case atStart => exact ⟨lo, d, rfl, hlo, HB0, Lib.hid rfl⟩
  case round =>
    rename World => wr
    obtain ⟨root, dk, rfl, hr, HB, HE⟩ := hrel
    have c0 := HB.out.b0
    have c1 := HB.out.b1
    by_cases h0 : hi ≤ 2 * root + 1
    · have h0z : (hi : Int) ≤ 2 * (root : Int) + 1 := by omega
      go_wp2
      go_end0
      refine ⟨rfl, ?_⟩
      rw [← HE.out, sd_end C.lt dk h0]
      exact HB.out.sv
    have h0z : ¬ ((hi : Int) ≤ 2 * (root : Int) + 1) := by omega
    by_cases h1 : 2 * root + 2 < hi
    · have h1z : 2 * (root : Int) + 1 + 1 < (hi : Int) := by omega
      cases hL : C.lt dk[first + (2 * root + 1)]! dk[first + (2 * root + 2)]! with
      | true =>
        cases hG : C.lt dk[first + root]! dk[first + (2 * root + 2)]! with
        | true =>
          go_wp2_with (first
            | ((go_at_fn C.g; (with_reducible refine ((HB).out.less (x := ((first : Int) + (2 * (root : Int) + 1))) (y := ((first : Int) + (2 * (root : Int) + 1) + 1)) (i := (first + (2 * root + 1))) (j := (first + (2 * root + 2))) (by omega) (by omega) (by omega) (by omega) hL).mono ?_); rintro e w1 ⟨rfl, hb1⟩; have HB1 := Lib.hid hb1; have d0 := hb1.b0; have d1 := hb1.b1; clear hb1))
            | ((go_at_fn C.g; (with_reducible refine ((HB1).out.less (x := ((first : Int) + (root : Int))) (y := ((first : Int) + (2 * (root : Int) + 1 + 1))) (i := (first + root)) (j := (first + (2 * root + 2))) (by omega) (by omega) (by omega) (by omega) hG).mono ?_); rintro e w1 ⟨rfl, hb1⟩; have HB2 := Lib.hid hb1; have d0 := hb1.b0; have d1 := hb1.b1; clear hb1); (obtain ⟨w2, hs, hb2⟩ := (HB2).out.swap (x := ((first : Int) + (root : Int))) (y := ((first : Int) + (2 * (root : Int) + 1 + 1))) (i := (first + root)) (j := (first + (2 * root + 2))) (by omega) (by omega) (by omega) (by omega); have HB3 := Lib.hid hb2; have s0 := hb2.b0; have s1 := hb2.b1; clear hb2)))
          go_roundw
          case rel => exact ⟨2 * root + 2, swp dk (first + root) (first + (2 * root + 2)), by go_num, by omega, HB3, Lib.hid (by rw [← HE.out, sd_right_go C.lt dk h1 hL hG])⟩
          case measure => simp [intOf]; omega
        | false =>
          go_wp2_with (first
            | ((go_at_fn C.g; (with_reducible refine ((HB).out.less (x := ((first : Int) + (2 * (root : Int) + 1))) (y := ((first : Int) + (2 * (root : Int) + 1) + 1)) (i := (first + (2 * root + 1))) (j := (first + (2 * root + 2))) (by omega) (by omega) (by omega) (by omega) hL).mono ?_); rintro e w1 ⟨rfl, hb1⟩; have HB1 := Lib.hid hb1; have d0 := hb1.b0; have d1 := hb1.b1; clear hb1))
            | ((go_at_fn C.g; (with_reducible refine ((HB1).out.less (x := ((first : Int) + (root : Int))) (y := ((first : Int) + (2 * (root : Int) + 1 + 1))) (i := (first + root)) (j := (first + (2 * root + 2))) (by omega) (by omega) (by omega) (by omega) hG).mono ?_); rintro e w1 ⟨rfl, hb1⟩; have HB2 := Lib.hid hb1; have d0 := hb1.b0; have d1 := hb1.b1; clear hb1)))
          ((try simp only [Exit.inBlock, Exit.then]); refine bodyPost_ret (results_none rfl _ _ _) rfl ?_)
          refine ⟨rfl, ?_⟩
          rw [← HE.out, sd_right_stop C.lt dk h1 hL hG]
          exact HB2.out.sv
      | false =>
        cases hG : C.lt dk[first + root]! dk[first + (2 * root + 1)]! with
        | true =>
          go_wp2_with (first
            | ((go_at_fn C.g; (with_reducible refine ((HB).out.less (x := ((first : Int) + (2 * (root : Int) + 1))) (y := ((first : Int) + (2 * (root : Int) + 1) + 1)) (i := (first + (2 * root + 1))) (j := (first + (2 * root + 2))) (by omega) (by omega) (by omega) (by omega) hL).mono ?_); rintro e w1 ⟨rfl, hb1⟩; have HB1 := Lib.hid hb1; have d0 := hb1.b0; have d1 := hb1.b1; clear hb1))
            | ((go_at_fn C.g; (with_reducible refine ((HB1).out.less (x := ((first : Int) + (root : Int))) (y := ((first : Int) + (2 * (root : Int) + 1))) (i := (first + root)) (j := (first + (2 * root + 1))) (by omega) (by omega) (by omega) (by omega) hG).mono ?_); rintro e w1 ⟨rfl, hb1⟩; have HB2 := Lib.hid hb1; have d0 := hb1.b0; have d1 := hb1.b1; clear hb1); (obtain ⟨w2, hs, hb2⟩ := (HB2).out.swap (x := ((first : Int) + (root : Int))) (y := ((first : Int) + (2 * (root : Int) + 1))) (i := (first + root)) (j := (first + (2 * root + 1))) (by omega) (by omega) (by omega) (by omega); have HB3 := Lib.hid hb2; have s0 := hb2.b0; have s1 := hb2.b1; clear hb2)))
          go_roundw
          case rel => exact ⟨2 * root + 1, swp dk (first + root) (first + (2 * root + 1)), by go_num, by omega, HB3, Lib.hid (by rw [← HE.out, sd_left_go C.lt dk (by omega) (fun _ => hL) hG])⟩
          case measure => simp [intOf]; omega
        | false =>
          go_wp2_with (first
            | ((go_at_fn C.g; (with_reducible refine ((HB).out.less (x := ((first : Int) + (2 * (root : Int) + 1))) (y := ((first : Int) + (2 * (root : Int) + 1) + 1)) (i := (first + (2 * root + 1))) (j := (first + (2 * root + 2))) (by omega) (by omega) (by omega) (by omega) hL).mono ?_); rintro e w1 ⟨rfl, hb1⟩; have HB1 := Lib.hid hb1; have d0 := hb1.b0; have d1 := hb1.b1; clear hb1))
            | ((go_at_fn C.g; (with_reducible refine ((HB1).out.less (x := ((first : Int) + (root : Int))) (y := ((first : Int) + (2 * (root : Int) + 1))) (i := (first + root)) (j := (first + (2 * root + 1))) (by omega) (by omega) (by omega) (by omega) hG).mono ?_); rintro e w1 ⟨rfl, hb1⟩; have HB2 := Lib.hid hb1; have d0 := hb1.b0; have d1 := hb1.b1; clear hb1)))
          ((try simp only [Exit.inBlock, Exit.then]); refine bodyPost_ret (results_none rfl _ _ _) rfl ?_)
          refine ⟨rfl, ?_⟩
          rw [← HE.out, sd_left_stop C.lt dk (by omega) (fun _ => hL) hG]
          exact HB2.out.sv
    · have h1z : ¬ (2 * (root : Int) + 1 + 1 < (hi : Int)) := by omega
      cases hG : C.lt dk[first + root]! dk[first + (2 * root + 1)]! with
      | true =>
        go_wp2_with (first
          | ((go_at_fn C.g; (with_reducible refine ((HB).out.less (x := ((first : Int) + (root : Int))) (y := ((first : Int) + (2 * (root : Int) + 1))) (i := (first + root)) (j := (first + (2 * root + 1))) (by omega) (by omega) (by omega) (by omega) hG).mono ?_); rintro e w1 ⟨rfl, hb1⟩; have HB2 := Lib.hid hb1; have d0 := hb1.b0; have d1 := hb1.b1; clear hb1); (obtain ⟨w2, hs, hb2⟩ := (HB2).out.swap (x := ((first : Int) + (root : Int))) (y := ((first : Int) + (2 * (root : Int) + 1))) (i := (first + root)) (j := (first + (2 * root + 1))) (by omega) (by omega) (by omega) (by omega); have HB3 := Lib.hid hb2; have s0 := hb2.b0; have s1 := hb2.b1; clear hb2)))
        go_roundw
        case rel => exact ⟨2 * root + 1, swp dk (first + root) (first + (2 * root + 1)), by go_num, by omega, HB3, Lib.hid (by rw [← HE.out, sd_left_go C.lt dk (by omega) (fun h => absurd h h1) hG])⟩
        case measure => simp [intOf]; omega
      | false =>
        go_wp2_with (first
          | ((go_at_fn C.g; (with_reducible refine ((HB).out.less (x := ((first : Int) + (root : Int))) (y := ((first : Int) + (2 * (root : Int) + 1))) (i := (first + root)) (j := (first + (2 * root + 1))) (by omega) (by omega) (by omega) (by omega) hG).mono ?_); rintro e w1 ⟨rfl, hb1⟩; have HB2 := Lib.hid hb1; have d0 := hb1.b0; have d1 := hb1.b1; clear hb1)))
        ((try simp only [Exit.inBlock, Exit.then]); refine bodyPost_ret (results_none rfl _ _ _) rfl ?_)
        refine ⟨rfl, ?_⟩
        rw [← HE.out, sd_left_stop C.lt dk (by omega) (fun h => absurd h h1) hG]
        exact HB2.out.sv
end Go.Proofs.Ytnhpjmjinchamaa

/- sort.heapSort_func with a closure that may lay blocks. -/
namespace Go.Proofs.Ytnhpjmjinchamaa
open Go Go.Shelf Go.RowKit Go.Lib
open Go.Sort (swp size_swp siftDown heapBuild heapPop heapSort size_siftDown)
variable {P : Program} {ρ : Ren} {α : Type} [Inhabited α]

set_option maxHeartbeats 8000000 in
set_option maxRecDepth 1000000 in
theorem heap_x (L : LaysGg.n27 P ρ) (C : SC P α) (a b : Nat) (d : Array α) (w : World) (h : At0 C w d) (hab : a ≤ b) (hb : b ≤ C.n) :
    Calls P (ρ.f 27) #[.agg #[.func (.func C.g) #[] C.lb, .func (.func C.sf) #[] C.sb], .int .i64 a, .int .i64 b] w fun e w' => e = .returned (.tuple #[]) ∧ Sv C w (heapSort C.lt d a b) w' := by
  (have mixed := L.mixed; have t0 := L.t0; have a0 := L.a0; have z0 := L.z0; have v0 := L.v0; have t3 := L.t3; have a3 := L.a3; have z3 := L.z3; have v3 := L.v3; have t4 := L.t4; have a4 := L.a4; have z4 := L.z4; have v4 := L.v4; have t26 := L.t26; have a26 := L.a26; have z26 := L.z26; have v26 := L.v26; have t37 := L.t37; have a37 := L.a37; have z37 := L.z37; have v37 := L.v37; have t44 := L.t44; have a44 := L.a44; have z44 := L.z44; have v44 := L.v44; have u44 := run_underlying L.t44; have eg := C.eg)
  have e34 : ∀ args w, (callFunc (ρ.f 34) args).run P w = .ok (.enter (ρ.f 34) args) w := enters_of L.f34 (by kernel_rfl) rfl
  have hn := C.hn
  have ecast : ((b - a : Nat) : Int) = (b : Int) - (a : Int) := by omega
  have HB0 := Lib.hid (Bx.enter h (ρ.t 44))
  clear h
  go_enter L.f27, BodyGg.n27_ntmps ρ
  go_wp2
  go_loopg [9] ((b - a - 1) / 2 + 1) (fun kx s wr => s = .int .i64 ((kx : Int) - 1) ∧ kx ≤ (b - a - 1) / 2 + 1 ∧ ∃ dk : Array α, Hid (Bx C w w.heap.size dk wr) ∧ Hid (heapBuild C.lt (b - a) a kx dk = heapBuild C.lt (b - a) a ((b - a - 1) / 2 + 1) d))
  case atStart => exact ⟨by rw [half_start hab], Nat.le_refl _, d, HB0, Lib.hid rfl⟩
  case round =>
    rename World => wr
    obtain ⟨rfl, hkk, dk, HB, HE⟩ := hrel
    have c0 := HB.out.b0
    have c1 := HB.out.b1
    cases gk with
    | zero =>
      have HD := Lib.hid (show dk = heapBuild C.lt (b - a) a ((b - a - 1) / 2 + 1) d from HE.out)
      clear HE hkk
      go_wp2
      go_loopg [10] (b - a) (fun kx s wq => s = .int .i64 ((kx : Int) - 1) ∧ kx ≤ b - a ∧ ∃ dj : Array α, Hid (Bx C w w.heap.size dj wq) ∧ Hid (heapPop C.lt a kx dj = heapPop C.lt a (b - a) dk))
      case atStart => exact ⟨by rw [ecast], Nat.le_refl _, dk, HB, Lib.hid rfl⟩
      case round =>
        rename World => wq
        clear HB c0 c1
        obtain ⟨rfl, hkk, dj, HB, HE2⟩ := hrel
        have c0 := HB.out.b0
        have c1 := HB.out.b1
        cases gk with
        | zero =>
          go_wp2
          go_end0
          have e : dj = heapSort C.lt d a b := by unfold heapSort; rw [← HD.out, ← HE2.out]; rfl
          rw [← e]
          exact ⟨rfl, HB.out.sv⟩
        | succ kx =>
          obtain ⟨w2, hs, hb2⟩ := HB.out.swap (x := (a : Int)) (y := (a : Int) + (kx : Int)) (i := a) (j := a + kx) (by omega) (by omega) (by omega) (by omega)
          have HB2 := Lib.hid hb2
          have s0 := hb2.b0
          have s1 := hb2.b1
          have hcall := sift_x (P := P) (ρ := ρ) { L with } C 0 kx a (swp dj a (a + kx)) w2 hb2.base (Nat.zero_le _) (by omega)
          rw [show ((0 : Nat) : Int) = 0 from rfl] at hcall
          have hcall := Lib.hid hcall
          clear hb2
          go_wp2_with (go_at_fn (ρ.f 34); (with_reducible refine hcall.out.mono ?_); rintro e w1 ⟨rfl, hv⟩; have HB3 := Lib.hid (HB2.out.call hv); clear hv)
          go_roundg kx
          case measure => omega
          case rel => exact ⟨by simp, by omega, siftDown C.lt kx a 0 (swp dj a (a + kx)), HB3, HE2⟩
    | succ kx =>
      have hcall := sift_x (P := P) (ρ := ρ) { L with } C kx (b - a) a dk wr HB.out.base (by omega) (by omega)
      rw [ecast] at hcall
      have hcall := Lib.hid hcall
      go_wp2_with (go_at_fn (ρ.f 34); (with_reducible refine hcall.out.mono ?_); rintro e w1 ⟨rfl, hv⟩; have HB3 := Lib.hid (HB.out.call hv); clear hv)
      go_roundg kx
      case measure => omega
      case rel => exact ⟨by simp, by omega, siftDown C.lt (b - a) a kx dk, HB3, HE⟩
end Go.Proofs.Ytnhpjmjinchamaa

/- sort.order2_func, median_func, medianAdjacent_func with a closure that may lay blocks. -/
namespace Go.Proofs.Ytnhpjmjinchamaa
open Go Go.Shelf Go.RowKit Go.Lib
open Go.Sort (order2 median medianAdjacent)
variable {P : Program} {ρ : Ren} {α : Type} [Inhabited α]

/-- the row stands; block cb counts t -/
structure Nx (C : SC P α) (w0 : World) (cb : Nat) (d : Array α) (t : Nat) (w : World) : Prop where
  less : Le C w0
  blt : C.blk < w0.heap.size
  rw_ : Rw C w0 d w
  ge : w0.heap.size ≤ cb
  lt : cb < w.heap.size
  cell : w.cell? ⟨cb, 0, none⟩ = some (.int .i64 t)
  cold : w.frozen? ⟨cb, 0, none⟩ = false
theorem Nx.grow {C : SC P α} {w0 w w' : World} {cb t : Nat} {d : Array α} (h : Nx C w0 cb d t w) (hb : Below w.heap.size w w') : Nx C w0 cb d t w' :=
  ⟨h.less, h.blt, h.rw_.grow (Nat.lt_of_lt_of_le h.blt h.rw_.only.size) hb, h.ge, Nat.lt_of_lt_of_le h.lt hb.size, (hb.cell (p := ⟨cb, 0, none⟩) h.lt).trans h.cell, (hb.frozen (p := ⟨cb, 0, none⟩) h.lt).trans h.cold⟩
theorem Nx.tick {C : SC P α} {w0 w : World} {cb t : Nat} {d : Array α} (h : Nx C w0 cb d t w) : Nx C w0 cb d (t + 1) (w.setCell ⟨cb, 0, none⟩ (.int .i64 ((t : Int) + 1))) := by
  have hne : C.blk ≠ cb := by have := h.blt; have := h.ge; omega
  refine ⟨h.less, h.blt, ⟨h.rw_.size, h.rw_.only.setCell (.inr h.ge) _ _, ?_⟩, h.ge, by simpa using h.lt, ?_, (World.frozen?_setCell ..).trans h.cold⟩
  · rw [Below.heap_setCell _ _ _ _ hne]
    exact h.rw_.at_
  · rw [World.cell?_setCell_same _ _ _ h.cell]
    rfl
theorem Nx.call {C : SC P α} {w0 w : World} {cb t : Nat} {d : Array α} (h : Nx C w0 cb d t w) {x y : Int} {i j : Nat} (hx : x = i) (hy : y = j) (hi : i < C.n) (hj : j < C.n) {v : Bool} (hv : C.lt d[i]! d[j]! = v) :
    Calls P C.g (#[.int .i64 x, .int .i64 y] ++ C.lb) w fun e w' => e = .returned (.bool v) ∧ Nx C w0 cb d t w' ∧ Below w.heap.size w w' := by
  subst hx hy hv
  exact (h.less d w h.rw_ i j hi hj).mono fun e w' ⟨he, hb⟩ => ⟨he, h.grow hb, hb⟩
/-- a block of the closure and the swapper -/
structure Mb (C : SC P α) (b : Nat) (w : World) : Prop where
  b0 : w.cell? ⟨b, 0, none⟩ = some (.func (.func C.g) #[] C.lb)
  b1 : w.cell? ⟨b, 1, none⟩ = some (.func (.func C.sf) #[] C.sb)
  blt : b < w.heap.size
theorem Mb.new (C : SC P α) (w : World) (t : TypeId) : Mb C w.heap.size (w.alloc (.cells #[.func (.func C.g) #[] C.lb, .func (.func C.sf) #[] C.sb] t)) := ⟨by simp, by simp, by simp⟩
theorem Mb.only {C : SC P α} {w w' : World} {b cb : Nat} (h : Mb C b w) (ho : Only [cb] w w') (hne : b ≠ cb) : Mb C b w' := by
  have e := ho.block b h.blt (by simp [hne])
  exact ⟨(World.cell?_of_block (w := w) (a := ⟨b, 0, none⟩) e).trans h.b0, (World.cell?_of_block (w := w) (a := ⟨b, 1, none⟩) e).trans h.b1, Nat.lt_of_lt_of_le h.blt ho.size⟩

set_option maxHeartbeats 4000000 in
set_option maxRecDepth 100000 in
theorem order2_x (L : LaysGg.n39 P ρ) (C : SC P α) (a b cb s : Nat) (d : Array α) (w0 w : World) (h : Nx C w0 cb d s w) (ha : a < C.n) (hb : b < C.n) (hs : s < 4611686018427387904) {a' b' s' : Nat} (hr : order2 C.lt d a b s = (a', b', s')) :
    Calls P (ρ.f 39) #[.agg #[.func (.func C.g) #[] C.lb, .func (.func C.sf) #[] C.sb], .int .i64 a, .int .i64 b, .pointer (some ⟨cb, 0, none⟩)] w fun e w' => e = .returned (.tuple #[.int .i64 a', .int .i64 b']) ∧ Nx C w0 cb d s' w' ∧ Only [cb] w w' := by
  (have mixed := L.mixed; have t0 := L.t0; have a0 := L.a0; have z0 := L.z0; have v0 := L.v0; have t3 := L.t3; have a3 := L.a3; have z3 := L.z3; have v3 := L.v3; have t4 := L.t4; have a4 := L.a4; have z4 := L.z4; have v4 := L.v4; have t26 := L.t26; have a26 := L.a26; have z26 := L.z26; have v26 := L.v26; have t37 := L.t37; have a37 := L.a37; have z37 := L.z37; have v37 := L.v37; have t44 := L.t44; have a44 := L.a44; have z44 := L.z44; have v44 := L.v44; have u44 := run_underlying L.t44; have eg := C.eg)
  have t64 := L.t64
  have a64 := L.a64
  have z64 := L.z64
  have v64 := L.v64
  have hn := C.hn
  have hB := below_alloc w (.cells #[.func (.func C.g) #[] C.lb, .func (.func C.sf) #[] C.sb] (ρ.t 44))
  have HN := Lib.hid (h.grow hB)
  have HB := Lib.hid hB
  clear h hB
  go_enter L.f39, BodyGg.n39_ntmps ρ
  cases hlv : C.lt d[b]! d[a]! with
  | true =>
    have e2 : order2 C.lt d a b s = (b, a, s + 1) := by simp [order2, hlv]
    rw [e2] at hr
    obtain ⟨rfl, rfl, rfl⟩ : b = a' ∧ a = b' ∧ s + 1 = s' := by simpa using hr
    clear hr e2
    go_wp2_with (go_at_fn C.g; (with_reducible refine (HN.out.call (x := (b : Int)) (y := (a : Int)) rfl rfl hb ha hlv).mono ?_); rintro e w1 ⟨rfl, hn1, hb1⟩; have HN1 := Lib.hid hn1; have HB1 := Lib.hid hb1; have cc := hn1.cell; have cf := hn1.cold; have cl := hn1.lt; clear hn1 hb1)
    go_ret2
    exact ⟨rfl, HN1.out.tick, ((Only.of_below _ HB.out).trans (Only.of_below _ HB1.out)).setCell (.inl (by simp)) _ _⟩
  | false =>
    have e2 : order2 C.lt d a b s = (a, b, s) := by simp [order2, hlv]
    rw [e2] at hr
    obtain ⟨rfl, rfl, rfl⟩ : a = a' ∧ b = b' ∧ s = s' := by simpa using hr
    clear hr e2
    go_wp2_with (go_at_fn C.g; (with_reducible refine (HN.out.call (x := (b : Int)) (y := (a : Int)) rfl rfl hb ha hlv).mono ?_); rintro e w1 ⟨rfl, hn1, hb1⟩; have HN1 := Lib.hid hn1; have HB1 := Lib.hid hb1; clear hn1 hb1)
    go_ret2
    exact ⟨rfl, HN1.out, (Only.of_below _ HB.out).trans (Only.of_below _ HB1.out)⟩
end Go.Proofs.Ytnhpjmjinchamaa

/- sort.median_func, medianAdjacent_func, choosePivot_func with a closure that may lay blocks. -/
namespace Go.Proofs.Ytnhpjmjinchamaa
open Go Go.Shelf Go.RowKit Go.Lib
open Go.Sort (order2 median medianAdjacent choosePivot rawPivot hintOf hintCode choosePivot_eq median_mem median_count medianAdjacent_mem medianAdjacent_count)
variable {P : Program} {ρ : Ren} {α : Type} [Inhabited α]

set_option maxHeartbeats 4000000 in
set_option maxRecDepth 100000 in
theorem median_x (L : LaysGg.n38 P ρ) (C : SC P α) (a b c cb s : Nat) (d : Array α) (w0 w : World) (h : Nx C w0 cb d s w) (ha : a < C.n) (hb : b < C.n) (hc : c < C.n) (hs : s + 3 < 4611686018427387904) {m s' : Nat} (hr : median C.lt d a b c s = (m, s')) :
    Calls P (ρ.f 38) #[.agg #[.func (.func C.g) #[] C.lb, .func (.func C.sf) #[] C.sb], .int .i64 a, .int .i64 b, .int .i64 c, .pointer (some ⟨cb, 0, none⟩)] w fun e w' => e = .returned (.int .i64 m) ∧ Nx C w0 cb d s' w' ∧ Only [cb] w w' := by
  (have mixed := L.mixed; have t0 := L.t0; have a0 := L.a0; have z0 := L.z0; have v0 := L.v0; have t3 := L.t3; have a3 := L.a3; have z3 := L.z3; have v3 := L.v3; have t4 := L.t4; have a4 := L.a4; have z4 := L.z4; have v4 := L.v4; have t26 := L.t26; have a26 := L.a26; have z26 := L.z26; have v26 := L.v26; have t37 := L.t37; have a37 := L.a37; have z37 := L.z37; have v37 := L.v37; have t44 := L.t44; have a44 := L.a44; have z44 := L.z44; have v44 := L.v44; have u44 := run_underlying L.t44; have eg := C.eg)
  have t64 := L.t64
  have a64 := L.a64
  have z64 := L.z64
  have v64 := L.v64
  have t67 := L.t67
  have a67 := L.a67
  have z67 := L.z67
  have v67 := L.v67
  have e39 : ∀ args w, (callFunc (ρ.f 39) args).run P w = .ok (.enter (ρ.f 39) args) w := enters_of L.f39 (by kernel_rfl) rfl
  have hn := C.hn
  obtain ⟨a1, b1, s1, r1⟩ : ∃ a1 b1 s1, order2 C.lt d a b s = (a1, b1, s1) := ⟨_, _, _, rfl⟩
  obtain ⟨b2, c2, s2, r2⟩ : ∃ b2 c2 s2, order2 C.lt d b1 c s1 = (b2, c2, s2) := ⟨_, _, _, rfl⟩
  obtain ⟨a3, b3, s3, r3⟩ : ∃ a3 b3 s3, order2 C.lt d a1 b2 s2 = (a3, b3, s3) := ⟨_, _, _, rfl⟩
  have hm : median C.lt d a b c s = (b3, s3) := by simp only [median, r1, r2, r3]
  rw [hm] at hr
  obtain ⟨rfl, rfl⟩ : b3 = m ∧ s3 = s' := by simpa using hr
  have l1 := order2_lt' C.lt d s ha hb
  have n1 := order2_swaps' C.lt d a b s
  rw [r1] at l1 n1
  have l2 := order2_lt' C.lt d s1 l1.2 hc
  have n2 := order2_swaps' C.lt d b1 c s1
  rw [r2] at l2 n2
  simp only at l1 l2 n1 n2
  have hB := below_alloc w (.cells #[.func (.func C.g) #[] C.lb, .func (.func C.sf) #[] C.sb] (ρ.t 44))
  have HN := Lib.hid (h.grow hB)
  have HO := Lib.hid (Only.of_below [cb] hB)
  have HM := Lib.hid (Mb.new C w (ρ.t 44))
  have hne : w.heap.size ≠ cb := by have := h.lt; omega
  have K1 := Lib.hid (fun wg (hg : Nx C w0 cb d s wg) => order2_x (P := P) (ρ := ρ) { L with } C a b cb s d w0 wg hg ha hb (by omega) r1)
  have K2 := Lib.hid (fun wg (hg : Nx C w0 cb d s1 wg) => order2_x (P := P) (ρ := ρ) { L with } C b1 c cb s1 d w0 wg hg l1.2 hc (by omega) r2)
  have K3 := Lib.hid (fun wg (hg : Nx C w0 cb d s2 wg) => order2_x (P := P) (ρ := ρ) { L with } C a1 b2 cb s2 d w0 wg hg l1.1 l2.1 (by omega) r3)
  clear h hB hr hm r1 r2 r3 l1 l2 n1 n2
  go_enter L.f38, BodyGg.n38_ntmps ρ
  go_wp2_with (first
    | (go_at_fn (ρ.f 39); (with_reducible refine (K1.out _ HN.out).mono ?_); rintro e w1 ⟨rfl, hn1, ho1⟩; have HN1 := Lib.hid hn1; have HO1 := Lib.hid (HO.out.trans ho1); have hm1 := HM.out.only ho1 hne; have HM1 := Lib.hid hm1; have x0 := hm1.b0; have x1 := hm1.b1; clear hn1 ho1 hm1)
    | (go_at_fn (ρ.f 39); (with_reducible refine (K2.out _ HN1.out).mono ?_); rintro e w2 ⟨rfl, hn1, ho1⟩; have HN2 := Lib.hid hn1; have HO2 := Lib.hid (HO1.out.trans ho1); have hm1 := HM1.out.only ho1 hne; have HM2 := Lib.hid hm1; have x2 := hm1.b0; have x3 := hm1.b1; clear hn1 ho1 hm1)
    | (go_at_fn (ρ.f 39); (with_reducible refine (K3.out _ HN2.out).mono ?_); rintro e w3 ⟨rfl, hn1, ho1⟩; have HN3 := Lib.hid hn1; have HO3 := Lib.hid (HO2.out.trans ho1); clear hn1 ho1))
  go_ret
  exact ⟨rfl, HN3.out, HO3.out⟩

set_option maxHeartbeats 4000000 in
set_option maxRecDepth 100000 in
theorem adjacent_x (L : LaysGg.n37 P ρ) (C : SC P α) (a cb s : Nat) (d : Array α) (w0 w : World) (h : Nx C w0 cb d s w) (ha : 1 ≤ a) (ha2 : a + 1 < C.n) (hs : s + 3 < 4611686018427387904) {m s' : Nat} (hr : medianAdjacent C.lt d a s = (m, s')) :
    Calls P (ρ.f 37) #[.agg #[.func (.func C.g) #[] C.lb, .func (.func C.sf) #[] C.sb], .int .i64 a, .pointer (some ⟨cb, 0, none⟩)] w fun e w' => e = .returned (.int .i64 m) ∧ Nx C w0 cb d s' w' ∧ Only [cb] w w' := by
  (have mixed := L.mixed; have t0 := L.t0; have a0 := L.a0; have z0 := L.z0; have v0 := L.v0; have t3 := L.t3; have a3 := L.a3; have z3 := L.z3; have v3 := L.v3; have t4 := L.t4; have a4 := L.a4; have z4 := L.z4; have v4 := L.v4; have t26 := L.t26; have a26 := L.a26; have z26 := L.z26; have v26 := L.v26; have t37 := L.t37; have a37 := L.a37; have z37 := L.z37; have v37 := L.v37; have t44 := L.t44; have a44 := L.a44; have z44 := L.z44; have v44 := L.v44; have u44 := run_underlying L.t44; have eg := C.eg)
  have t64 := L.t64
  have a64 := L.a64
  have z64 := L.z64
  have v64 := L.v64
  have t67 := L.t67
  have a67 := L.a67
  have z67 := L.z67
  have v67 := L.v67
  have e38 : ∀ args w, (callFunc (ρ.f 38) args).run P w = .ok (.enter (ρ.f 38) args) w := enters_of L.f38 (by kernel_rfl) rfl
  have hn := C.hn
  have hB := below_alloc w (.cells #[.func (.func C.g) #[] C.lb, .func (.func C.sf) #[] C.sb] (ρ.t 44))
  have HN := Lib.hid (h.grow hB)
  have HO := Lib.hid (Only.of_below [cb] hB)
  have K := fun wg (hg : Nx C w0 cb d s wg) => median_x (P := P) (ρ := ρ) { L with } C (a - 1) a (a + 1) cb s d w0 wg hg (by omega) (by omega) ha2 hs hr
  rw [show ((a - 1 : Nat) : Int) = (a : Int) - 1 by omega, show ((a + 1 : Nat) : Int) = (a : Int) + 1 by omega] at K
  have K1 := Lib.hid K
  clear h hB hr K
  go_enter L.f37, BodyGg.n37_ntmps ρ
  go_wp2_with (first
    | (go_at_fn (ρ.f 38); (with_reducible refine (K1.out _ HN.out).mono ?_); rintro e w1 ⟨rfl, hn1, ho1⟩; have HN1 := Lib.hid hn1; have HO1 := Lib.hid (HO.out.trans ho1); clear hn1 ho1))
  go_ret
  exact ⟨rfl, HN1.out, HO1.out⟩
end Go.Proofs.Ytnhpjmjinchamaa

/- sort.choosePivot_func with a closure that may lay blocks. -/
namespace Go.Proofs.Ytnhpjmjinchamaa
open Go Go.Shelf Go.RowKit Go.Lib
open Go.Sort (median medianAdjacent choosePivot rawPivot hintOf hintCode choosePivot_eq median_mem median_count medianAdjacent_mem medianAdjacent_count)
variable {P : Program} {ρ : Ren} {α : Type} [Inhabited α]

theorem Nx.start {C : SC P α} {w : World} {d : Array α} (h : At0 C w d) (t t' : TypeId) : Nx C w (w.heap.size + 1) d 0 ((w.alloc (.cells #[.func (.func C.g) #[] C.lb, .func (.func C.sf) #[] C.sb] t)).alloc (.cells #[.int .i64 0] t')) := by
  have h1 := below_alloc w (.cells #[.func (.func C.g) #[] C.lb, .func (.func C.sf) #[] C.sb] t)
  have h2 := h1.trans ((below_alloc (w.alloc (.cells #[.func (.func C.g) #[] C.lb, .func (.func C.sf) #[] C.sb] t)) (.cells #[.int .i64 0] t')).mono h1.size)
  have hn := Holds.new (w.alloc (.cells #[.func (.func C.g) #[] C.lb, .func (.func C.sf) #[] C.sb] t)) #[.int .i64 0] t'
  have e : (w.alloc (.cells #[.func (.func C.g) #[] C.lb, .func (.func C.sf) #[] C.sb] t)).heap.size = w.heap.size + 1 := by simp
  rw [e] at hn
  exact ⟨h.less, h.lt, (Rw.start h.size h.holds).grow h.lt h2, by omega, hn.lt, hn.cell 0 _ rfl, hn.thaw 0⟩


set_option maxHeartbeats 4000000 in
set_option maxRecDepth 100000 in
theorem pivot_x (L : LaysGg.n29 P ρ) (C : SC P α) (a b : Nat) (d : Array α) (w : World) (h : At0 C w d) (hab : a < b) (hb : b ≤ C.n) {pv : Nat} {hc : Int} (hr : ((choosePivot C.lt d a b).1 = pv ∧ hintCode (choosePivot C.lt d a b).2 = hc)) :
    Calls P (ρ.f 29) #[.agg #[.func (.func C.g) #[] C.lb, .func (.func C.sf) #[] C.sb], .int .i64 a, .int .i64 b] w fun e w' => e = .returned (.tuple #[.int .i64 pv, .int .i64 hc]) ∧ Below w.heap.size w w' := by
  (have mixed := L.mixed; have t0 := L.t0; have a0 := L.a0; have z0 := L.z0; have v0 := L.v0; have t3 := L.t3; have a3 := L.a3; have z3 := L.z3; have v3 := L.v3; have t4 := L.t4; have a4 := L.a4; have z4 := L.z4; have v4 := L.v4; have t26 := L.t26; have a26 := L.a26; have z26 := L.z26; have v26 := L.v26; have t37 := L.t37; have a37 := L.a37; have z37 := L.z37; have v37 := L.v37; have t44 := L.t44; have a44 := L.a44; have z44 := L.z44; have v44 := L.v44; have u44 := run_underlying L.t44; have eg := C.eg)
  have t53 := L.t53
  have a53 := L.a53
  have z53 := L.z53
  have v53 := L.v53
  have t64 := L.t64
  have a64 := L.a64
  have z64 := L.z64
  have v64 := L.v64
  have t67 := L.t67
  have a67 := L.a67
  have z67 := L.z67
  have v67 := L.v67
  have e37 : ∀ args w, (callFunc (ρ.f 37) args).run P w = .ok (.enter (ρ.f 37) args) w := enters_of L.f37 (by kernel_rfl) rfl
  have e38 : ∀ args w, (callFunc (ρ.f 38) args).run P w = .ok (.enter (ρ.f 38) args) w := enters_of L.f38 (by kernel_rfl) rfl
  have hn := C.hn
  rw [choosePivot_eq] at hr
  obtain ⟨I, hI⟩ : ∃ I : Nat, I = a + (b - a) / 4 * 1 := ⟨_, rfl⟩
  obtain ⟨J, hJ⟩ : ∃ J : Nat, J = a + (b - a) / 4 * 2 := ⟨_, rfl⟩
  obtain ⟨K, hK⟩ : ∃ K : Nat, K = a + (b - a) / 4 * 3 := ⟨_, rfl⟩
  have eI : ((a : Int) + ((b : Int) - (a : Int)) / 4) = (I : Int) := by omega
  have eJ : ((a : Int) + ((b : Int) - (a : Int)) / 4 * 2) = (J : Int) := by omega
  have eK : ((a : Int) + ((b : Int) - (a : Int)) / 4 * 3) = (K : Int) := by omega
  have HN := Lib.hid (Nx.start h (ρ.t 44) (ρ.t 3))
  have hB1 := below_alloc w (.cells #[.func (.func C.g) #[] C.lb, .func (.func C.sf) #[] C.sb] (ρ.t 44))
  have HB := Lib.hid (hB1.trans ((below_alloc (w.alloc (.cells #[.func (.func C.g) #[] C.lb, .func (.func C.sf) #[] C.sb] (ρ.t 44))) (.cells #[.int .i64 0] (ρ.t 3))).mono hB1.size))
  have HM := Lib.hid (show Mb C w.heap.size ((w.alloc (.cells #[.func (.func C.g) #[] C.lb, .func (.func C.sf) #[] C.sb] (ρ.t 44))).alloc (.cells #[.int .i64 0] (ρ.t 3))) from (Mb.new C w (ρ.t 44)).only (Only.of_below [w.heap.size + 1] (below_alloc _ _)) (by omega))
  have hne : w.heap.size ≠ w.heap.size + 1 := by omega
  have HE := Lib.hid (show ∀ wx, Only [w.heap.size + 1] ((w.alloc (.cells #[.func (.func C.g) #[] C.lb, .func (.func C.sf) #[] C.sb] (ρ.t 44))).alloc (.cells #[.int .i64 0] (ρ.t 3))) wx → Below w.heap.size w wx from fun wx ho => HB.out.trans (ho.below (by simp) (by simp; omega)))
  clear h hB1
  by_cases h8 : b - a ≥ 8
  · by_cases h50 : b - a ≥ 50
    · obtain ⟨i1, s1, h1⟩ : ∃ i1 s1, medianAdjacent C.lt d I 0 = (i1, s1) := ⟨_, _, rfl⟩
      obtain ⟨j1, s2, h2⟩ : ∃ j1 s2, medianAdjacent C.lt d J s1 = (j1, s2) := ⟨_, _, rfl⟩
      obtain ⟨k1, s3, h3⟩ : ∃ k1 s3, medianAdjacent C.lt d K s2 = (k1, s3) := ⟨_, _, rfl⟩
      obtain ⟨p, s, h4⟩ : ∃ p s, median C.lt d i1 j1 k1 s3 = (p, s) := ⟨_, _, rfl⟩
      have hraw : rawPivot C.lt d a b = (p, s) := by simp only [rawPivot, if_pos h8, if_pos h50, ← hI, ← hJ, ← hK, h1, h2, h3, h4]
      rw [hraw] at hr
      obtain ⟨hr1, hr2⟩ := hr
      obtain rfl : p = pv := hr1
      have m1 := medianAdjacent_mem C.lt d I 0
      have m2 := medianAdjacent_mem C.lt d J s1
      have m3 := medianAdjacent_mem C.lt d K s2
      have n1 := medianAdjacent_count C.lt d I 0
      have n2 := medianAdjacent_count C.lt d J s1
      have n3 := medianAdjacent_count C.lt d K s2
      have n4 := median_count C.lt d i1 j1 k1 s3
      rw [h1] at m1 n1
      rw [h2] at m2 n2
      rw [h3] at m3 n3
      rw [h4] at n4
      simp only [] at m1 m2 m3 n1 n2 n3 n4
      have hh0 : s = 0 → hc = 1 := fun q => by rw [← hr2, q]; rfl
      have hh12 : s = 12 → hc = 2 := fun q => by rw [← hr2, q]; rfl
      have hhx : s ≠ 0 → s ≠ 12 → hc = 0 := fun q1 q2 => by rw [← hr2]; unfold hintOf; rw [if_neg q1, if_neg q2]; rfl
      have K1 := Lib.hid (fun wg (hg : Nx C w (w.heap.size + 1) d 0 wg) => adjacent_x (P := P) (ρ := ρ) { L with } C I (w.heap.size + 1) 0 d w wg hg (by omega) (by omega) (by omega) h1)
      have K2 := Lib.hid (fun wg (hg : Nx C w (w.heap.size + 1) d s1 wg) => adjacent_x (P := P) (ρ := ρ) { L with } C J (w.heap.size + 1) s1 d w wg hg (by omega) (by omega) (by omega) h2)
      have K3 := Lib.hid (fun wg (hg : Nx C w (w.heap.size + 1) d s2 wg) => adjacent_x (P := P) (ρ := ρ) { L with } C K (w.heap.size + 1) s2 d w wg hg (by omega) (by omega) (by omega) h3)
      have K4 := Lib.hid (fun wg (hg : Nx C w (w.heap.size + 1) d s3 wg) => median_x (P := P) (ρ := ρ) { L with } C i1 j1 k1 (w.heap.size + 1) s3 d w wg hg (by omega) (by omega) (by omega) (by omega) h4)
      clear h1 h2 h3 h4 hraw hI hJ hK m1 m2 m3 hr2
      go_enter L.f29, BodyGg.n29_ntmps ρ
      go_wp2_with (first
        | (go_at_fn (ρ.f 37); (with_reducible refine (K1.out _ HN.out).mono ?_); rintro e w1 ⟨rfl, hn1, ho1⟩; have HN1 := Lib.hid hn1; have HO1 := Lib.hid ho1; have hm1 := HM.out.only ho1 hne; have HM1 := Lib.hid hm1; have x0 := hm1.b0; have x1 := hm1.b1; clear hn1 ho1 hm1)
        | (go_at_fn (ρ.f 37); (with_reducible refine (K2.out _ HN1.out).mono ?_); rintro e w2 ⟨rfl, hn1, ho1⟩; have HN2 := Lib.hid hn1; have HO2 := Lib.hid (HO1.out.trans ho1); have hm1 := HM1.out.only ho1 hne; have HM2 := Lib.hid hm1; have x2 := hm1.b0; have x3 := hm1.b1; clear hn1 ho1 hm1)
        | (go_at_fn (ρ.f 37); (with_reducible refine (K3.out _ HN2.out).mono ?_); rintro e w3 ⟨rfl, hn1, ho1⟩; have HN3 := Lib.hid hn1; have HO3 := Lib.hid (HO2.out.trans ho1); have hm1 := HM2.out.only ho1 hne; have HM3 := Lib.hid hm1; have x4 := hm1.b0; have x5 := hm1.b1; clear hn1 ho1 hm1)
        | (go_at_fn (ρ.f 38); (with_reducible refine (K4.out _ HN3.out).mono ?_); rintro e w4 ⟨rfl, hn1, ho1⟩; have cc := hn1.cell; have HO4 := Lib.hid (HO3.out.trans ho1); clear hn1 ho1))
      all_goals
        go_ret2
        refine ⟨?_, HE.out _ HO4.out⟩
        (first
          | (have e0 : (s : Int) = 0 := of_beq_int (by assumption)
             rw [hh0 (by omega)]; rfl)
          | (have e1 : (s : Int) = 12 := of_beq_int (by assumption)
             rw [hh12 (by omega)]; rfl)
          | (have e0 : (s : Int) ≠ 0 := of_bne_int (by assumption)
             have e1 : (s : Int) ≠ 12 := of_bne_int (by assumption)
             rw [hhx (by omega) (by omega)]; rfl)
          | (rw [hh0 (by omega)]; rfl))
    · obtain ⟨p, s, h4⟩ : ∃ p s, median C.lt d I J K 0 = (p, s) := ⟨_, _, rfl⟩
      have hraw : rawPivot C.lt d a b = (p, s) := by simp only [rawPivot, if_pos h8, if_neg h50, ← hI, ← hJ, ← hK, h4]
      rw [hraw] at hr
      obtain ⟨hr1, hr2⟩ := hr
      obtain rfl : p = pv := hr1
      have n4 := median_count C.lt d I J K 0
      rw [h4] at n4
      simp only [] at n4
      have hh0 : s = 0 → hc = 1 := fun q => by rw [← hr2, q]; rfl
      have hh12 : s = 12 → hc = 2 := fun q => by rw [← hr2, q]; rfl
      have hhx : s ≠ 0 → s ≠ 12 → hc = 0 := fun q1 q2 => by rw [← hr2]; unfold hintOf; rw [if_neg q1, if_neg q2]; rfl
      have K4 := Lib.hid (fun wg (hg : Nx C w (w.heap.size + 1) d 0 wg) => median_x (P := P) (ρ := ρ) { L with } C I J K (w.heap.size + 1) 0 d w wg hg (by omega) (by omega) (by omega) (by omega) h4)
      clear h4 hraw hI hJ hK hr2
      go_enter L.f29, BodyGg.n29_ntmps ρ
      go_wp2_with (first
        | (go_at_fn (ρ.f 38); (with_reducible refine (K4.out _ HN.out).mono ?_); rintro e w4 ⟨rfl, hn1, ho1⟩; have cc := hn1.cell; have HO4 := Lib.hid ho1; clear hn1 ho1))
      all_goals
        go_ret2
        refine ⟨?_, HE.out _ HO4.out⟩
        (first
          | (have e0 : (s : Int) = 0 := of_beq_int (by assumption)
             rw [hh0 (by omega)]; rfl)
          | (have e1 : (s : Int) = 12 := of_beq_int (by assumption)
             rw [hh12 (by omega)]; rfl)
          | (have e0 : (s : Int) ≠ 0 := of_bne_int (by assumption)
             have e1 : (s : Int) ≠ 12 := of_bne_int (by assumption)
             rw [hhx (by omega) (by omega)]; rfl)
          | (rw [hh0 (by omega)]; rfl))
  · have hraw : rawPivot C.lt d a b = (J, 0) := by simp only [rawPivot, if_neg h8, ← hJ]
    rw [hraw] at hr
    obtain ⟨hr1, hr2⟩ := hr
    obtain rfl : J = pv := hr1
    obtain rfl : 1 = hc := hr2
    clear hraw hI hJ hK
    go_enter L.f29, BodyGg.n29_ntmps ρ
    go_wp2
    go_ret2
    exact ⟨rfl, HB.out⟩
end Go.Proofs.Ytnhpjmjinchamaa

/- sort.partitionEqual_func with a closure that may lay blocks. -/
namespace Go.Proofs.Ytnhpjmjinchamaa
open Go Go.Shelf Go.RowKit Go.Lib
open Go.Sort (swp size_swp partEqLoop partitionEqual scanUp scanDown)
variable {P : Program} {ρ : Ren} {α : Type} [Inhabited α]


set_option maxHeartbeats 8000000 in
set_option maxRecDepth 100000 in
theorem partEq_x (L : LaysGg.n32 P ρ) (C : SC P α) (a b pivot : Nat) (d : Array α) (w : World) (h : At0 C w d) (hap : a ≤ pivot) (hpb : pivot < b) (hb : b ≤ C.n) :
    Calls P (ρ.f 32) #[.agg #[.func (.func C.g) #[] C.lb, .func (.func C.sf) #[] C.sb], .int .i64 a, .int .i64 b, .int .i64 pivot] w fun e w' => e = .returned (.int .i64 (partitionEqual C.lt d a b pivot).1) ∧ Sv C w (partitionEqual C.lt d a b pivot).2 w' := by
  (have mixed := L.mixed; have t0 := L.t0; have a0 := L.a0; have z0 := L.z0; have v0 := L.v0; have t3 := L.t3; have a3 := L.a3; have z3 := L.z3; have v3 := L.v3; have t4 := L.t4; have a4 := L.a4; have z4 := L.z4; have v4 := L.v4; have t26 := L.t26; have a26 := L.a26; have z26 := L.z26; have v26 := L.v26; have t37 := L.t37; have a37 := L.a37; have z37 := L.z37; have v37 := L.v37; have t44 := L.t44; have a44 := L.a44; have z44 := L.z44; have v44 := L.v44; have u44 := run_underlying L.t44; have eg := C.eg)
  have hn := C.hn
  have HB0 := Lib.hid (Bx.enter h (ρ.t 44))
  clear h
  (obtain ⟨w2, hs, hb2⟩ := (HB0).out.swap (x := (a : Int)) (y := (pivot : Int)) (i := a) (j := pivot) (by omega) (by omega) (by omega) (by omega); have HB1 := Lib.hid hb2; have s0 := hb2.b0; have s1 := hb2.b1; clear hb2)
  go_enter L.f32, BodyGg.n32_ntmps ρ
  go_wp2
  go_loopw [9, 10] (fun vi vj wr => ∃ (i j : Nat) (dk : Array α), vi = .int .i64 i ∧ vj = .int .i64 j ∧ a < i ∧ i ≤ j + 1 ∧ j < b ∧ Hid (Bx C w w.heap.size dk wr) ∧ Hid (partEqLoop C.lt a i j dk = partEqLoop C.lt a (a + 1) (b - 1) (swp d a pivot))) (fun vi vj _ => (intOf vj).toNat + 1 - (intOf vi).toNat)
  case atStart => exact ⟨a + 1, b - 1, swp d a pivot, by go_num, by congr 1; omega, by omega, by omega, by omega, HB1, Lib.hid rfl⟩
  case round =>
    rename World => wr
    clear hs s0 s1
    obtain ⟨i, j, dk, rfl, rfl, hai, hij, hjb, HB, AE⟩ := hrel
    go_wp2
    go_loopw [9] (fun vi wq => ∃ i' : Nat, vi = .int .i64 i' ∧ i ≤ i' ∧ i' ≤ j + 1 ∧ Hid (Bx C w w.heap.size dk wq) ∧ Hid (scanUp (fun x => !C.lt dk[a]! x) dk j i' = scanUp (fun x => !C.lt dk[a]! x) dk j i)) (fun vi _ => j + 1 - (intOf vi).toNat)
    case atStart => exact ⟨i, rfl, Nat.le_refl _, hij, HB, Lib.hid rfl⟩
    case round =>
      rename World => wq
      obtain ⟨i', rfl, hii, hij', HBQ, HSC⟩ := hrel
      have c0 := HBQ.out.b0
      have c1 := HBQ.out.b1
      by_cases hle : i' ≤ j
      · cases hlv : C.lt dk[a]! dk[i']! with
        | false =>
          go_wp2_with (first | ((go_at_fn C.g; (with_reducible refine ((HBQ).out.less (x := (a : Int)) (y := (i' : Int)) (i := a) (j := i') (by omega) (by omega) (by omega) (by omega) hlv).mono ?_); rintro e w1 ⟨rfl, hb1⟩; have HB3 := Lib.hid hb1; have d0 := hb1.b0; have d1 := hb1.b1; clear hb1)))
          go_roundw
          case rel => exact ⟨i' + 1, by go_num, by omega, by omega, HB3, Lib.hid ((scanUp_go (fun x => !C.lt dk[a]! x) dk j i' hle (by simp [hlv])).symm.trans HSC.out)⟩
          case measure => simp [intOf]; omega
        | true =>
          have HI2 := Lib.hid ((scanUp_end (fun x => !C.lt dk[a]! x) dk j i' (Or.inr (by simp [hlv]))).symm.trans HSC.out)
          go_wp2_with (first | ((go_at_fn C.g; (with_reducible refine ((HBQ).out.less (x := (a : Int)) (y := (i' : Int)) (i := a) (j := i') (by omega) (by omega) (by omega) (by omega) hlv).mono ?_); rintro e w1 ⟨rfl, hb1⟩; have HB3 := Lib.hid hb1; have d0 := hb1.b0; have d1 := hb1.b1; clear hb1)))
          go_loopw [10] (fun vj wz => ∃ j' : Nat, vj = .int .i64 j' ∧ j' ≤ j ∧ i' ≤ j' + 1 ∧ Hid (Bx C w w.heap.size dk wz) ∧ Hid (scanDown (fun x => C.lt dk[a]! x) dk i' j' = scanDown (fun x => C.lt dk[a]! x) dk i' j)) (fun vj _ => (intOf vj).toNat)
          case atStart => exact ⟨j, rfl, Nat.le_refl _, hij', HB3, Lib.hid rfl⟩
          case round =>
            rename World => wz
            clear c0 c1 d0 d1
            obtain ⟨j', rfl, hjj, hij2, HBZ, HSD⟩ := hrel
            have c0 := HBZ.out.b0
            have c1 := HBZ.out.b1
            by_cases hle2 : i' ≤ j'
            · cases hlv2 : C.lt dk[a]! dk[j']! with
              | true =>
                go_wp2_with (first | ((go_at_fn C.g; (with_reducible refine ((HBZ).out.less (x := (a : Int)) (y := (j' : Int)) (i := a) (j := j') (by omega) (by omega) (by omega) (by omega) hlv2).mono ?_); rintro e w1 ⟨rfl, hb1⟩; have HB4 := Lib.hid hb1; have d0 := hb1.b0; have d1 := hb1.b1; clear hb1)))
                go_roundw
                case rel => exact ⟨j' - 1, by congr 1; omega, by omega, by omega, HB4, Lib.hid ((scanDown_go (fun x => C.lt dk[a]! x) dk i' j' hle2 (by omega) hlv2).symm.trans HSD.out)⟩
                case measure => simp [intOf]; omega
              | false =>
                have HJ2 := Lib.hid ((scanDown_end (fun x => C.lt dk[a]! x) dk i' j' (Or.inr hlv2)).symm.trans HSD.out)
                have hlt3 := scans_lt C.lt a i j dk (by omega) HI2.out HJ2.out hle2
                go_wp2_with (first | ((go_at_fn C.g; (with_reducible refine ((HBZ).out.less (x := (a : Int)) (y := (j' : Int)) (i := a) (j := j') (by omega) (by omega) (by omega) (by omega) hlv2).mono ?_); rintro e w1 ⟨rfl, hb1⟩; have HB4 := Lib.hid hb1; have d0 := hb1.b0; have d1 := hb1.b1; clear hb1); (obtain ⟨w2, hs, hb2⟩ := (HB4).out.swap (x := (i' : Int)) (y := (j' : Int)) (i := i') (j := j') (by omega) (by omega) (by omega) (by omega); have HB5 := Lib.hid hb2; have s0 := hb2.b0; have s1 := hb2.b1; clear hb2)))
                go_roundw
                case rel => exact ⟨i' + 1, j' - 1, swp dk i' j', by go_num, by congr 1; omega, by omega, by omega, by omega, HB5, Lib.hid (by rw [← AE.out]; exact (partEq_go C.lt a i j dk HI2.out HJ2.out (by omega)).symm)⟩
                case measure => simp [intOf]; omega
            · (have hj2 := (scanDown_end (fun x => C.lt dk[a]! x) dk i' j' (Or.inl hle2)).symm.trans HSD.out
               have HJ2 := Lib.hid hj2
               clear hj2
               go_wp2
               go_ret
               have e := partEq_break C.lt a i j dk HI2.out HJ2.out (by omega)
               refine ⟨?_, ?_⟩
               · unfold partitionEqual; rw [← AE.out, e]; rfl
               · unfold partitionEqual; rw [← AE.out, e]; exact (HBZ).out.sv)
      · have HI2 := Lib.hid ((scanUp_end (fun x => !C.lt dk[a]! x) dk j i' (Or.inl hle)).symm.trans HSC.out)
        go_wp2
        go_loopw [10] (fun vj wz => ∃ j' : Nat, vj = .int .i64 j' ∧ j' ≤ j ∧ i' ≤ j' + 1 ∧ Hid (Bx C w w.heap.size dk wz) ∧ Hid (scanDown (fun x => C.lt dk[a]! x) dk i' j' = scanDown (fun x => C.lt dk[a]! x) dk i' j)) (fun vj _ => (intOf vj).toNat)
        case atStart => exact ⟨j, rfl, Nat.le_refl _, hij', HBQ, Lib.hid rfl⟩
        case round =>
          rename World => wz
          clear c0 c1
          obtain ⟨j', rfl, hjj, hij2, HBZ, HSD⟩ := hrel
          have c0 := HBZ.out.b0
          have c1 := HBZ.out.b1
          by_cases hle2 : i' ≤ j'
          · exfalso; omega
          · (have hj2 := (scanDown_end (fun x => C.lt dk[a]! x) dk i' j' (Or.inl hle2)).symm.trans HSD.out
             have HJ2 := Lib.hid hj2
             clear hj2
             go_wp2
             go_ret
             have e := partEq_break C.lt a i j dk HI2.out HJ2.out (by omega)
             refine ⟨?_, ?_⟩
             · unfold partitionEqual; rw [← AE.out, e]; rfl
             · unfold partitionEqual; rw [← AE.out, e]; exact (HBZ).out.sv)
end Go.Proofs.Ytnhpjmjinchamaa
