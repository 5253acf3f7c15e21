/- sort.Slice with a closure that may lay blocks: the worlds that the sort passes through. -/
import Derived.Test.YtgnmolleaengaaaGreatMs
import Derived.Shelf.SlSortFuncK.WholeK
set_option linter.unusedVariables false
set_option linter.unusedSimpArgs false
set_option linter.unnecessarySimpa false
namespace Go.Proofs.YtgnmolleaengaaaGreat
open Go Go.Shelf Go.RowKit Go.Lib
open Go.Sort (swp HoldsK putRowK holdsK_putRowK putRowK_self putRowK_swp size_putRowK size_swp)

section
variable {P : Program} {ρ : Ren} {α : Type} [Inhabited α]

/-- what stays while a sort runs: the row's place, the closure, the swapper -/
structure SC (P : Program) (α : Type) [Inhabited α] where
  enc : α → List Value
  k : Nat
  hk : ∀ x, (enc x).length = k
  lt : α → α → Bool
  g : Nat
  p : Value
  sf : Nat
  sb : Array Value
  blk : Nat
  off : Nat
  n : Nat
  eg : ∀ args w, (callFunc g args).run P w = .ok (.enter g args) w
  swap : SwapSwapsK P sf sb enc k blk off n
  hn : n < 4611686018427387904

/-- only the row has turned: it holds d -/
structure Rw (C : SC P α) (w0 : World) (d : Array α) (w : World) : Prop where
  size : d.size = C.n
  only : Only [C.blk] w0 w
  at_ : w.heap[C.blk]? = (putRowK C.enc C.k w0 C.blk C.off d).heap[C.blk]?
/-- the closure, in every world that the sort passes through -/
def Le (C : SC P α) (w0 : World) : Prop := ∀ (d : Array α) (w : World), Rw C w0 d w → ∀ i j : Nat, i < C.n → j < C.n →
  Calls P C.g #[C.p, .int .i64 i, .int .i64 j] w fun e w' => e = .returned (.bool (C.lt d[i]! d[j]!)) ∧ Below w.heap.size w w'
/-- a world in which the sort may begin -/
structure At0 (C : SC P α) (w : World) (d : Array α) : Prop where
  size : d.size = C.n
  lt : C.blk < w.heap.size
  holds : HoldsK C.enc C.k w C.blk C.off d
  less : Le C w
structure Sv (C : SC P α) (w0 : World) (d : Array α) (w : World) : Prop where
  rw_ : Rw C w0 d w
  at0 : At0 C w d

theorem heap_putRow (C : SC P α) (w : World) (d : Array α) : (putRowK C.enc C.k w C.blk C.off d).heap[C.blk]? = (w.heap[C.blk]?).map (Go.Sort.onCells (Go.Sort.putCells id C.off (Go.Sort.flatK C.enc C.k d))) := by
  unfold putRowK Go.Sort.putRow Go.Sort.mapBlock
  simp [Array.getElem?_modify]
theorem putRow_twice (C : SC P α) (w : World) (d d' : Array α) (h : d'.size = d.size) : putRowK C.enc C.k (putRowK C.enc C.k w C.blk C.off d) C.blk C.off d' = putRowK C.enc C.k w C.blk C.off d' :=
  Go.Sort.putRow_putRow id w C.blk C.off _ _ (by simp [h])
theorem only_putRow (C : SC P α) (w : World) (d : Array α) : Only [C.blk] w (putRowK C.enc C.k w C.blk C.off d) :=
  ⟨rfl, rfl, rfl, by rw [size_putRowK]; exact Nat.le_refl _, fun j hj hs => by
    show (w.heap.modify C.blk _)[j]? = _
    have : C.blk ≠ j := fun e => hs (by simp [e])
    simp [Array.getElem?_modify, this]⟩
theorem Rw.start {C : SC P α} {w : World} {d : Array α} (hs : d.size = C.n) (h : HoldsK C.enc C.k w C.blk C.off d) : Rw C w d w := ⟨hs, Only.refl _ _, by rw [putRowK_self _ _ _ _ _ _ h]⟩
theorem Rw.trans {C : SC P α} {w0 w w' : World} {d d' : Array α} (h : Rw C w0 d w) (h' : Rw C w d' w') : Rw C w0 d' w' := by
  refine ⟨h'.size, h.only.trans h'.only, ?_⟩
  rw [h'.at_, heap_putRow, h.at_, ← heap_putRow, putRow_twice C w0 d d' (by rw [h'.size, h.size])]
theorem Rw.grow {C : SC P α} {w0 w w' : World} {d : Array α} (h : Rw C w0 d w) (hl : C.blk < w.heap.size) (hb : Below w.heap.size w w') : Rw C w0 d w' :=
  ⟨h.size, h.only.trans (Only.of_below _ hb), (hb.block _ hl).trans h.at_⟩
theorem HoldsK.same {C : SC P α} {w w' : World} {d : Array α} (h : HoldsK C.enc C.k w C.blk C.off d) (e : w'.heap[C.blk]? = w.heap[C.blk]?) : HoldsK C.enc C.k w' C.blk C.off d := fun j hj =>
  ⟨(World.cell?_of_block (w := w) (a := ⟨C.blk, C.off + j, none⟩) e).trans (h j hj).1, (World.frozen?_of_block (w := w) (a := ⟨C.blk, C.off + j, none⟩) e).trans (h j hj).2⟩
theorem Le.on {C : SC P α} {w0 w : World} {d : Array α} (h : Le C w0) (hr : Rw C w0 d w) : Le C w := fun d' w' hr' => h d' w' (hr.trans hr')
theorem At0.grow {C : SC P α} {w w' : World} {d : Array α} (h : At0 C w d) (hb : Below w.heap.size w w') : At0 C w' d :=
  ⟨h.size, Nat.lt_of_lt_of_le h.lt hb.size, HoldsK.same h.holds (hb.block _ h.lt), h.less.on ((Rw.start h.size h.holds).grow h.lt hb)⟩
theorem At0.put {C : SC P α} {w w' : World} {d d' : Array α} (h : At0 C w d) (hr : Rw C w d' w') : At0 C w' d' :=
  ⟨hr.size, Nat.lt_of_lt_of_le h.lt hr.only.size, HoldsK.same (holdsK_putRowK C.enc C.k w C.blk C.off d d' h.holds (by rw [hr.size, h.size])) hr.at_, h.less.on hr⟩
theorem Sv.start {C : SC P α} {w : World} {d : Array α} (h : At0 C w d) : Sv C w d w := ⟨Rw.start h.size h.holds, h⟩
theorem Sv.grow {C : SC P α} {w0 w w' : World} {d : Array α} (h : Sv C w0 d w) (hb : Below w.heap.size w w') : Sv C w0 d w' := ⟨h.rw_.grow h.at0.lt hb, h.at0.grow hb⟩
theorem Sv.trans {C : SC P α} {w0 w w' : World} {d d' : Array α} (h : Sv C w0 d w) (h' : Sv C w d' w') : Sv C w0 d' w' := ⟨h.rw_.trans h'.rw_, h'.at0⟩
theorem Sv.swap {C : SC P α} {w0 w : World} {d : Array α} (h : Sv C w0 d w) {i j : Nat} (hi : i < C.n) (hj : j < C.n) :
    ∃ w', (callFunc C.sf (#[.int .i64 i, .int .i64 j] ++ C.sb)).run P w = .ok (.value (.tuple #[])) w' ∧ Sv C w0 (swp d i j) w' ∧ Only [C.blk] w w' := by
  have hd := h.at0.size
  have e := C.swap w d h.at0.holds hd i j hi hj
  have e2 := putRowK_swp C.enc C.k C.hk w C.blk C.off d i j (by omega) (by omega)
  rw [putRowK_self _ _ _ _ _ _ h.at0.holds] at e2
  rw [e2] at e
  have hr : Rw C w (swp d i j) (putRowK C.enc C.k w C.blk C.off (swp d i j)) := ⟨by rw [size_swp]; exact hd, only_putRow _ _ _, rfl⟩
  exact ⟨_, e, ⟨h.rw_.trans hr, h.at0.put hr⟩, hr.only⟩
/-- from a contract that tells the world -/
theorem Sv.of_world {C : SC P α} {w : World} {d d' : Array α} (h : At0 C w d) (hs : d'.size = C.n) {w' : World} (hw : ∃ n os, w' = sortWorldK C.enc C.k w C.blk C.off n d' os) : Sv C w d' w' := by
  obtain ⟨n, os, rfl⟩ := hw
  have hr : Rw C w d' (sortWorldK C.enc C.k w C.blk C.off n d' os) := by
    unfold sortWorldK
    have h1 : Rw C w d' (putRowK C.enc C.k (Go.Sort.ahead w n) C.blk C.off d') := by
      have ho := only_putRow C (Go.Sort.ahead w n) d'
      exact ⟨hs, ⟨ho.os, ho.tape, ho.output, ho.size, ho.block⟩, by rw [heap_putRow, heap_putRow]; rfl⟩
    refine h1.grow (by rw [size_putRowK]; exact h.lt) ?_
    exact ⟨rfl, rfl, rfl, by rw [Go.Sort.size_grow]; omega, fun j hj => by
      show ((putRowK C.enc C.k (Go.Sort.ahead w n) C.blk C.off d').heap ++ os)[j]? = _
      rw [Array.getElem?_append_left hj]⟩
  exact ⟨hr, h.put hr⟩

/-- .. with the walk's own block b of the closure and the swapper -/
structure Bx (C : SC P α) (w0 : World) (b : Nat) (d : Array α) (w : World) : Prop where
  sv : Sv C w0 d w
  ne : b ≠ C.blk
  b0 : w.cell? ⟨b, 0, none⟩ = some (.func (.func C.g) #[C.p] #[])
  b1 : w.cell? ⟨b, 1, none⟩ = some (.func (.func C.sf) #[] C.sb)
  blt : b < w.heap.size
theorem Bx.enter {C : SC P α} {w : World} {d : Array α} (h : At0 C w d) (t : TypeId) : Bx C w w.heap.size d (w.alloc (.cells #[.func (.func C.g) #[C.p] #[], .func (.func C.sf) #[] C.sb] t)) :=
  ⟨(Sv.start h).grow (below_alloc _ _), by have := h.lt; omega, by simp, by simp, by simp⟩
theorem Bx.size {C : SC P α} {w0 w : World} {b : Nat} {d : Array α} (h : Bx C w0 b d w) : d.size = C.n := h.sv.at0.size
theorem Bx.base {C : SC P α} {w0 w : World} {b : Nat} {d : Array α} (h : Bx C w0 b d w) : At0 C w d := h.sv.at0
theorem Bx.grow {C : SC P α} {w0 w w' : World} {b : Nat} {d : Array α} (h : Bx C w0 b d w) (hb : Below w.heap.size w w') : Bx C w0 b d w' :=
  ⟨h.sv.grow hb, h.ne, (hb.cell (p := ⟨b, 0, none⟩) h.blt).trans h.b0, (hb.cell (p := ⟨b, 1, none⟩) h.blt).trans h.b1, Nat.lt_of_lt_of_le h.blt hb.size⟩
theorem Bx.only {C : SC P α} {w0 w w' : World} {b : Nat} {d d' : Array α} (h : Bx C w0 b d w) (hs : Sv C w0 d' w') (ho : Only [C.blk] w w') : Bx C w0 b d' w' := by
  have e := ho.block b h.blt (by simp [h.ne])
  exact ⟨hs, h.ne, (World.cell?_of_block (w := w) (a := ⟨b, 0, none⟩) e).trans h.b0, (World.cell?_of_block (w := w) (a := ⟨b, 1, none⟩) e).trans h.b1, Nat.lt_of_lt_of_le h.blt ho.size⟩
theorem Bx.call {C : SC P α} {w0 w w' : World} {b : Nat} {d d' : Array α} (h : Bx C w0 b d w) (hs : Sv C w d' w') : Bx C w0 b d' w' := h.only (h.sv.trans hs) hs.rw_.only
theorem Bx.drew {C : SC P α} {w0 w : World} {b : Nat} {d : Array α} (h : Bx C w0 b d w) : Bx C w0 b d { w with drawn := w.drawn + 1 } := h.grow (Below.refl _ _).drew
theorem Bx.less {C : SC P α} {w0 w : World} {b : Nat} {d : Array α} (h : Bx C w0 b d w) {x y : Int} {i j : Nat} (hx : x = i) (hy : y = j) (hi : i < C.n) (hj : j < C.n) {v : Bool} (hv : C.lt d[i]! d[j]! = v) :
    Calls P C.g #[C.p, .int .i64 x, .int .i64 y] w fun e w' => e = .returned (.bool v) ∧ Bx C w0 b d w' := by
  subst hx hy hv
  exact (h.base.less d w (Rw.start h.size h.base.holds) i j hi hj).mono fun e w' ⟨he, hb⟩ => ⟨he, h.grow hb⟩
theorem Bx.swap {C : SC P α} {w0 w : World} {b : Nat} {d : Array α} (h : Bx C w0 b d w) {x y : Int} {i j : Nat} (hx : x = i) (hy : y = j) (hi : i < C.n) (hj : j < C.n) :
    ∃ w', (callFunc C.sf (#[.int .i64 x, .int .i64 y] ++ C.sb)).run P w = .ok (.value (.tuple #[])) w' ∧ Bx C w0 b (swp d i j) w' := by
  subst hx hy
  obtain ⟨w', e, hs, ho⟩ := h.sv.swap hi hj
  exact ⟨w', e, h.only hs ho⟩
end
end Go.Proofs.YtgnmolleaengaaaGreat

/- sort.insertionSort_func with a closure that may lay blocks. -/
namespace Go.Proofs.YtgnmolleaengaaaGreat
open Go Go.Shelf Go.RowKit Go.Lib
open Go.Sort (swp size_swp insOuter insInner)
variable {P : Program} {ρ : Ren} {α : Type} [Inhabited α]


set_option maxHeartbeats 4000000 in
set_option maxRecDepth 100000 in
theorem insertion_x (L : LaysGg.n26 P ρ) (C : SC P α) (a b : Nat) (d : Array α) (w : World) (h : At0 C w d) (hab : a ≤ b) (hb : b ≤ C.n) :
    Calls P (ρ.f 26) #[.agg #[.func (.func C.g) #[C.p] #[], .func (.func C.sf) #[] C.sb], .int .i64 a, .int .i64 b] w fun e w' => e = .returned (.tuple #[]) ∧ Sv C w (Go.Sort.insertionSort C.lt d a b) w' := by
  (have mixed := L.mixed; have t0 := L.t0; have a0 := L.a0; have z0 := L.z0; have v0 := L.v0; have t3 := L.t3; have a3 := L.a3; have z3 := L.z3; have v3 := L.v3; have t4 := L.t4; have a4 := L.a4; have z4 := L.z4; have v4 := L.v4; have t26 := L.t26; have a26 := L.a26; have z26 := L.z26; have v26 := L.v26; have t37 := L.t37; have a37 := L.a37; have z37 := L.z37; have v37 := L.v37; have t44 := L.t44; have a44 := L.a44; have z44 := L.z44; have v44 := L.v44; have u44 := run_underlying L.t44; have eg := C.eg)
  have hn := C.hn
  have HB0 := Lib.hid (Bx.enter h (ρ.t 44))
  clear h
  go_enter L.f26, BodyGg.n26_ntmps ρ
  go_wp2
  go_loopw [6] (fun vi wr => ∃ (i : Nat) (dk : Array α), vi = .int .i64 i ∧ a < i ∧ i ≤ b + 1 ∧ Hid (Bx C w w.heap.size dk wr) ∧ Hid (insOuter C.lt a b i dk = insOuter C.lt a b (a + 1) d)) (fun vi _ => b + 1 - (intOf vi).toNat)
  case atStart => exact ⟨a + 1, d, by go_num, by omega, by omega, HB0, Lib.hid rfl⟩
  case round =>
    rename World => wr
    obtain ⟨i, dk, rfl, hai, hib, HB, HO⟩ := hrel
    by_cases hlt : i < b
    · go_wp2
      go_loopw [7] (fun vj wq => ∃ (j : Nat) (dj : Array α), vj = .int .i64 j ∧ a ≤ j ∧ j ≤ i ∧ Hid (Bx C w w.heap.size dj wq) ∧ Hid (insInner C.lt a j dj = insInner C.lt a i dk)) (fun vj _ => (intOf vj).toNat)
      case atStart => exact ⟨i, dk, rfl, by omega, Nat.le_refl _, HB, Lib.hid rfl⟩
      case round =>
        rename World => wq
        obtain ⟨j, dj, rfl, haj, hji, HBJ, HI⟩ := hrel
        have c0 := HBJ.out.b0
        have c1 := HBJ.out.b1
        have OUT : ∀ we, Hid (Bx C w w.heap.size dj we) → (j ≤ a ∨ C.lt dj[j]! dj[j - 1]! = false) → ∃ (i' : Nat) (dk' : Array α), Value.int .i64 ((i : Int) + 1) = .int .i64 (i' : Nat) ∧ a < i' ∧ i' ≤ b + 1 ∧ Hid (Bx C w w.heap.size dk' we) ∧ Hid (insOuter C.lt a b i' dk' = insOuter C.lt a b (a + 1) d) := fun we hw hs =>
          ⟨i + 1, dj, by go_num, by omega, by omega, hw, Lib.hid (by rw [← HO.out, insOuter_go _ _ _ _ _ hlt, ← HI.out, insInner_stop _ _ _ _ hs])⟩
        have OUT := Lib.hid OUT
        by_cases hja : a < j
        · cases hlv : C.lt dj[j]! dj[j - 1]! with
          | true =>
            have hl := HBJ.out.less (x := (j : Int)) (y := (j : Int) - 1) (i := j) (j := j - 1) rfl (by omega) (by omega) (by omega) hlv
            go_wp2_with (go_at_fn C.g; refine hl.mono ?_; rintro e w1 ⟨rfl, hb1⟩; have d0 := hb1.b0; have d1 := hb1.b1; obtain ⟨w2, hs, hb2⟩ := hb1.swap (x := (j : Int)) (y := (j : Int) - 1) (i := j) (j := j - 1) rfl (by omega) (by omega) (by omega); have HB2 := Lib.hid hb2; clear hb1 hb2)
            go_roundw
            case rel => exact ⟨j - 1, swp dj j (j - 1), by congr 1; omega, by omega, by omega, HB2, Lib.hid (by rw [← HI.out, insInner_go C.lt a j dj hja hlv])⟩
            case measure => simp [intOf]; omega
          | false =>
            have hl := HBJ.out.less (x := (j : Int)) (y := (j : Int) - 1) (i := j) (j := j - 1) rfl (by omega) (by omega) (by omega) hlv
            go_wp2_with (go_at_fn C.g; refine hl.mono ?_; rintro e w1 ⟨rfl, hb1⟩; have HB1 := Lib.hid hb1; clear hb1)
            go_roundw
            case rel => exact OUT.out _ HB1 (Or.inr hlv)
            case measure => simp [intOf]; omega
        · go_wp2
          go_roundw
          case rel => exact OUT.out _ HBJ (Or.inl (by omega))
          case measure => simp [intOf]; omega
    · go_wp2
      go_end0
      refine ⟨rfl, ?_⟩
      have e : Go.Sort.insertionSort C.lt d a b = dk := by
        unfold Go.Sort.insertionSort
        rw [← HO.out, insOuter_stop C.lt a b i dk hlt]
      rw [e]
      exact HB.out.sv
end Go.Proofs.YtgnmolleaengaaaGreat
