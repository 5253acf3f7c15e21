/- The queue in memory; keys compared; the walk of find. -/
import Derived.Test.YtgnmolleaengaaaGreatJd
set_option linter.unusedVariables false
set_option linter.unusedSimpArgs false
set_option linter.unnecessarySimpa false
namespace Go.Proofs.YtgnmolleaengaaaGreat
open Go Go.RowKit

theorem two_fields {fs : List Field} (hf : fs.map (fun f => (f.name == "_", f.type, f.offset)) = [(false, 3, 0), (false, 3, 1)]) :
    ∃ f g, fs = [f, g] ∧ ¬ f.name = "_" ∧ f.type = 3 ∧ f.offset = 0 ∧ ¬ g.name = "_" ∧ g.type = 3 ∧ g.offset = 1 := by
  cases fs with
  | nil => cases hf
  | cons f fs =>
    cases fs with
    | nil => simp at hf
    | cons g fs =>
      cases fs with
      | cons _ _ => simp at hf
      | nil =>
        simp at hf
        exact ⟨f, g, rfl, hf.1.1, hf.1.2.1, hf.1.2.2, hf.2.1, hf.2.2.1, hf.2.2.2⟩

/-- a key -/
abbrev Ky := Int × Int
abbrev kv (k : Ky) : Value := .agg #[.int .i64 k.1, .int .i64 k.2]
theorem eq_kv (k k' : Ky) (w : World) : (Op.equal 33 (kv k) (kv k')).run Tryz.prog w = .ok (decide (k = k')) w := by
  have h3 : Tryz.prog.underlying 3 = some (.int .i64) := by kernel_rfl
  have hu : Tryz.prog.underlying 33 = some (.struct (Tryz.prog.fieldsOf 33)) := by kernel_rfl
  have hp : Tryz.prog.stoodInHeld 33 = false := by kernel_rfl
  obtain ⟨f, g, hfs, h1, h2, h4, h5, h6, h7⟩ := two_fields (fs := (Tryz.prog.fieldsOf 33).toList) (by kernel_rfl)
  show (Op.equalIn (9998 + 1 + 1) 33 (kv k) (kv k')).run Tryz.prog w = _
  obtain ⟨a, b⟩ := k
  obtain ⟨c, d⟩ := k'
  rw [run_equalIn_agg w _ _ _ _ hu hp, hfs]
  have hc : ∀ (p q : Int) (w : World), (Op.equalIn 9999 3 (.int .i64 p) (.int .i64 q)).run Tryz.prog w = .ok (p == q) w := fun p q w => run_equalIn_int w 9998 3 .i64 .i64 p q h3
  simp only [Op.eqFields, h1, h2, h4, h5, h6, h7]
  go_simp
  by_cases e1 : a = c
  · subst e1
    by_cases e2 : b = d
    · subst e2
      simp
    · simp [e2]
  · simp [e1]
theorem eql_kv (k k' : Ky) (w : World) : (binOp .eql 33 (kv k) (kv k')).run Tryz.prog w = .ok (.bool (decide (k = k'))) w := by
  simp only [binOp]
  simp [eq_kv]

/-- an entry: a job, its risk's slices, its marks -/
structure En where
  j : Jb
  na : Option Addr
  nc : Nat
  da : Option Addr
  dc : Nat
  run : Bool
  held : Bool
abbrev En.num (x : En) : Value := .slice x.na (limb x.j.n).length x.nc
abbrev En.den (x : En) : Value := .slice x.da (limb x.j.d).length x.dc
abbrev En.key (x : En) : Ky := (x.j.vol, x.j.frag)
abbrev ec (x : En) : Array Value := #[.int .i64 x.j.vol, .int .i64 x.j.frag, .int .i64 x.j.cls, .bool false, x.num, x.den, .int .i64 x.j.rem, .bool x.run, .bool x.held]
def eE : Enc En := ⟨9, fun x => (ec x).toList, fun _ => rfl, by decide, fun x v hv => by simp at hv; rcases hv with rfl | rfl | rfl | rfl | rfl | rfl | rfl | rfl | rfl <;> rfl⟩

/-- the queue at qb: its slots, and its entries L in a row of its own, from block B on -/
structure Qp (B : Nat) (qb : Nat) (slots : Int) (L : List En) (w : World) : Prop where
  c0 : w.cell? ⟨qb, 0, none⟩ = some (.int .i64 slots)
  row : ∃ v, w.cell? ⟨qb, 1, none⟩ = some v ∧ World.ownsRow w B 76 9 v L.length (eE.flat L)
  thaw : Thaw w qb
  ty : TyB w qb 68
  base : B ≤ qb
  frac : ∀ x ∈ L, Ru w x.num (limb x.j.n) ∧ Ru w x.den (limb x.j.d)
  ok : ∀ x ∈ L, OkJ x.j
namespace Qp
variable {B qb : Nat} {slots : Int} {L : List En} {w w' : World}
theorem keep (h : Qp B qb slots L w) (hb : Below w.heap.size w w') : Qp B qb slots L w' := by
  have hl := h.ty.lt
  obtain ⟨v, h1, h2⟩ := h.row
  exact ⟨(hb.cell (p := ⟨qb, 0, none⟩) hl).trans h.c0, ⟨v, (hb.cell (p := ⟨qb, 1, none⟩) hl).trans h1, owns_below h2 hb⟩, h.thaw.below hb hl, h.ty.keep hb, h.base, fun x hx => ⟨(h.frac x hx).1.keep hb, (h.frac x hx).2.keep hb⟩, h.ok⟩
/-- the list reads as L -/
theorem list (h : Qp B qb slots L w) (hl : L.length ≤ 1000000) : ∃ a cap, w.cell? ⟨qb, 1, none⟩ = some (.slice a L.length cap) ∧ Rd eE w (.slice a L.length cap) L := by
  obtain ⟨v, h1, h2⟩ := h.row
  obtain ⟨a, cap, rfl⟩ := owns_val h2
  refine ⟨a, cap, h1, a, cap, rfl, ?_, ?_⟩
  · rcases h2.2 with ⟨h0, h3⟩ | ⟨g', cap', cur, he, _, _, h4, h5, _⟩
    · have e : cap = 0 := (Value.slice.inj h0).2.2
      exact ⟨by omega, by omega⟩
    · cases he; unfold maxLen at h5; exact ⟨h4, h5⟩
  · by_cases h0 : L = []
    · exact .inl h0
    · right
      have hne : L.length ≠ 0 := fun q => h0 (List.eq_nil_of_length_eq_zero q)
      rcases h2.2 with ⟨_, hz⟩ | ⟨g, cap', cur, e, _⟩
      · exact absurd hz hne
      · cases e
        exact ⟨g, 0, rfl, (h2.lt g rfl).2, fun j u hu => by have := h2.cells rfl j u hu; rwa [add_off] at this⟩
end Qp
theorem Rd.entry {w : World} {a : Option Addr} {n cap : Nat} {L : List En} (h : Rd eE w (.slice a n cap) L) {i : Nat} {x : En} (hi : L[i]? = some x) :
    ∃ b off, a = some ⟨b, off, none⟩ ∧ b < w.heap.size ∧ ∀ wx, Below w.heap.size w wx → wx.cell? ⟨b, off + i * 9, none⟩ = some (.int .i64 x.j.vol) ∧ wx.cell? ⟨b, off + i * 9 + 1, none⟩ = some (.int .i64 x.j.frag) ∧ wx.cell? ⟨b, off + i * 9 + 2, none⟩ = some (.int .i64 x.j.cls) ∧ wx.cell? ⟨b, off + i * 9 + 3, none⟩ = some (.bool false) ∧ wx.cell? ⟨b, off + i * 9 + 4, none⟩ = some x.num ∧ wx.cell? ⟨b, off + i * 9 + 5, none⟩ = some x.den ∧ wx.cell? ⟨b, off + i * 9 + 6, none⟩ = some (.int .i64 x.j.rem) ∧ wx.cell? ⟨b, off + i * 9 + 7, none⟩ = some (.bool x.run) ∧ wx.cell? ⟨b, off + i * 9 + 8, none⟩ = some (.bool x.held) := by
  obtain ⟨b, off, e, hb, hc⟩ := h.cell hi
  refine ⟨b, off, e, hb, fun wx hw => ⟨?_, ?_, ?_, ?_, ?_, ?_, ?_, ?_, ?_⟩⟩
  · exact (hw.cell (p := ⟨b, off + i * 9, none⟩) hb).trans (hc 0 _ rfl)
  · exact (hw.cell (p := ⟨b, off + i * 9 + 1, none⟩) hb).trans (hc 1 _ rfl)
  · exact (hw.cell (p := ⟨b, off + i * 9 + 2, none⟩) hb).trans (hc 2 _ rfl)
  · exact (hw.cell (p := ⟨b, off + i * 9 + 3, none⟩) hb).trans (hc 3 _ rfl)
  · exact (hw.cell (p := ⟨b, off + i * 9 + 4, none⟩) hb).trans (hc 4 _ rfl)
  · exact (hw.cell (p := ⟨b, off + i * 9 + 5, none⟩) hb).trans (hc 5 _ rfl)
  · exact (hw.cell (p := ⟨b, off + i * 9 + 6, none⟩) hb).trans (hc 6 _ rfl)
  · exact (hw.cell (p := ⟨b, off + i * 9 + 7, none⟩) hb).trans (hc 7 _ rfl)
  · exact (hw.cell (p := ⟨b, off + i * 9 + 8, none⟩) hb).trans (hc 8 _ rfl)

set_option maxRecDepth 20000 in
set_option maxHeartbeats 1000000 in
/-- the closure of find -/
theorem same_key {w : World} {b : Nat} {k : Ky} (c0 : w.cell? ⟨b, 0, none⟩ = some (.int .i64 k.1)) (c1 : w.cell? ⟨b, 1, none⟩ = some (.int .i64 k.2)) (hb : b < w.heap.size) (x : En) {r : Bool} (hr : decide (x.key = k) = r) :
    Calls Tryz.prog 59 #[.agg (ec x), .pointer (some ⟨b, 0, none⟩)] w fun e w' => e = .returned (.bool r) ∧ Below w.heap.size w w' := by
  have HB0 := Lib.hid (below_alloc w (.cells (ec x) 76))
  have hM := (Mm.start (S := []) w (by simp)).push w.heap.size (ec x) 76 rfl
  have HM := Lib.hid hM
  have C0 := Lib.hid ((HB0.out.cell (p := ⟨b, 0, none⟩) hb).trans c0)
  have C1 := Lib.hid ((HB0.out.cell (p := ⟨b, 1, none⟩) hb).trans c1)
  have HLT := Lib.hid (show b < (w.alloc (.cells (ec x) 76)).heap.size by simp; omega)
  have HE := fun w => eql_kv x.key k w
  rw [hr] at HE
  obtain ⟨⟨a1, a2, a3, a4, n, d⟩, na, nc, da, dc, ru, se⟩ := x
  obtain ⟨k1, k2⟩ := k
  clear c0 c1 hM hr
  go_enter Tryz.func59, Tryz.ntmps59
  go_wp2_with fail
  change Hid (Mm [] w (w.alloc (.cells #[.int .i64 a1, .int .i64 a2, .int .i64 a3, .bool false, .slice na (limb n).length nc, .slice da (limb d).length dc, .int .i64 a4, .bool ru, .bool se] 76)) [(w.heap.size, #[.int .i64 a1, .int .i64 a2, .int .i64 a3, .bool false, .slice na (limb n).length nc, .slice da (limb d).length dc, .int .i64 a4, .bool ru, .bool se])]) at HM
  change Hid ((w.alloc (.cells #[.int .i64 a1, .int .i64 a2, .int .i64 a3, .bool false, .slice na (limb n).length nc, .slice da (limb d).length dc, .int .i64 a4, .bool ru, .bool se] 76)).cell? ⟨b, 0, none⟩ = some (.int .i64 k1)) at C0
  change Hid ((w.alloc (.cells #[.int .i64 a1, .int .i64 a2, .int .i64 a3, .bool false, .slice na (limb n).length nc, .slice da (limb d).length dc, .int .i64 a4, .bool ru, .bool se] 76)).cell? ⟨b, 1, none⟩ = some (.int .i64 k2)) at C1
  change Hid (b < (w.alloc (.cells #[.int .i64 a1, .int .i64 a2, .int .i64 a3, .bool false, .slice na (limb n).length nc, .slice da (limb d).length dc, .int .i64 a4, .bool ru, .bool se] 76)).heap.size) at HLT
  change Hid (Below w.heap.size w (w.alloc (.cells #[.int .i64 a1, .int .i64 a2, .int .i64 a3, .bool false, .slice na (limb n).length nc, .slice da (limb d).length dc, .int .i64 a4, .bool ru, .bool se] 76))) at HB0
  generalize w.alloc (.cells #[.int .i64 a1, .int .i64 a2, .int .i64 a3, .bool false, .slice na (limb n).length nc, .slice da (limb d).length dc, .int .i64 a4, .bool ru, .bool se] 76) = W at *
  have HK := fun w => Lib.hid (key_as ⟨a1, a2, a3, a4, n, d⟩ na da (limb n).length nc (limb d).length dc w)
  refine wp_region_grow (Below W.heap.size W) (by kernel_rfl) (by kernel_rfl) (Below.refl _ _).drew ?_
  repeat first
           | (apply gRow_plain
              · exact rfl
              · intro wg hg
                ((obtain ⟨b0, b1, b2, b3, b4, b5, b6, b7, b8, -⟩ := (HM.out.call hg).lay9 0 rfl; have e0 := (hg.cell (p := ⟨b, 0, none⟩) HLT.out).trans C0.out; have e1 := (hg.cell (p := ⟨b, 1, none⟩) HLT.out).trans C1.out))
                go_simp
                first
                  | exact rfl
                  | exact hg
                  | exact ⟨hg, rfl⟩
                  | ((first
| ((with_reducible refine (HK _).out.mono ?_); rintro e w' ⟨rfl, hb⟩; exact ⟨rfl, hg.trans (hb.mono hg.size)⟩)))
              intro K hK
              go_simp
              refine hK _ ?_
              clear hK K)
           | (apply gRow_step
              · go_simp; done
              · intro wg hg
                ((obtain ⟨b0, b1, b2, b3, b4, b5, b6, b7, b8, -⟩ := (HM.out.call hg).lay9 0 rfl; have e0 := (hg.cell (p := ⟨b, 0, none⟩) HLT.out).trans C0.out; have e1 := (hg.cell (p := ⟨b, 1, none⟩) HLT.out).trans C1.out))
                go_simp
                first
                  | exact rfl
                  | exact hg
                  | exact ⟨hg, rfl⟩
                  | ((first
| ((with_reducible refine (HK _).out.mono ?_); rintro e w' ⟨rfl, hb⟩; exact ⟨rfl, hg.trans (hb.mono hg.size)⟩)))
              intro K hK
              go_simp
              refine hK _ ?_
              clear hK K)
           | (apply gRow_not
              · go_simp; done
              intro K hK
              go_simp
              refine hK _ ?_
              clear hK K)
  refine gRow_nil ?_
  intro w6 hb6
  have HB6 := Lib.hid (HB0.out.trans (hb6.mono HB0.out.size))
  clear hb6
  go_wp2_with fail
  go_ret
  exact ⟨rfl, HB6.out⟩
end Go.Proofs.YtgnmolleaengaaaGreat
