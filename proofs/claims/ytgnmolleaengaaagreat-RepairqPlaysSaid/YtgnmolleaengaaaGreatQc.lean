/- The walks of before and New. -/
import Derived.Test.YtgnmolleaengaaaGreatQb
set_option linter.unusedVariables false
set_option linter.unusedSimpArgs false
set_option linter.unnecessarySimpa false
namespace Go.Proofs.YtgnmolleaengaaaGreat
open Go Go.RowKit

def ltE (x y : En) : Bool := decide (ordJ x.j y.j < 0)

/-- an entry's risk, where it lies -/
structure FrR (w : World) (x : En) : Prop where
  num : Ru w x.num (limb x.j.n)
  den : Ru w x.den (limb x.j.d)
  ok : OkJ x.j
theorem FrR.keep {w w' : World} {x : En} (h : FrR w x) (hb : Below w.heap.size w w') : FrR w' x := ⟨h.num.keep hb, h.den.keep hb, h.ok⟩

/-- the cells of an entry at block g, place o -/
abbrev EnAt (w : World) (g o : Nat) (x : En) : Prop := w.cell? ⟨g, o, none⟩ = some (.int .i64 x.j.vol) ∧ w.cell? ⟨g, o + 1, none⟩ = some (.int .i64 x.j.frag) ∧ w.cell? ⟨g, o + 2, none⟩ = some (.int .i64 x.j.cls) ∧ w.cell? ⟨g, o + 3, none⟩ = some (.bool false) ∧ w.cell? ⟨g, o + 4, none⟩ = some x.num ∧ w.cell? ⟨g, o + 5, none⟩ = some x.den ∧ w.cell? ⟨g, o + 6, none⟩ = some (.int .i64 x.j.rem)
theorem EnAt.keep {w w' : World} {g o : Nat} {x : En} (h : EnAt w g o x) (hg : g < w.heap.size) (hb : Below w.heap.size w w') : EnAt w' g o x := by
  obtain ⟨h0, h1, h2, h3, h4, h5, h6⟩ := h
  exact ⟨(hb.cell (p := ⟨g, o, none⟩) hg).trans h0, (hb.cell (p := ⟨g, o + 1, none⟩) hg).trans h1, (hb.cell (p := ⟨g, o + 2, none⟩) hg).trans h2, (hb.cell (p := ⟨g, o + 3, none⟩) hg).trans h3, (hb.cell (p := ⟨g, o + 4, none⟩) hg).trans h4, (hb.cell (p := ⟨g, o + 5, none⟩) hg).trans h5, (hb.cell (p := ⟨g, o + 6, none⟩) hg).trans h6⟩

set_option maxRecDepth 20000 in
set_option maxHeartbeats 2000000 in
theorem before_as {w : World} {qb g off n cap i k : Nat} {x y : En} (c1 : w.cell? ⟨qb, 1, none⟩ = some (.slice (some ⟨g, off, none⟩) n cap)) (hq : qb < w.heap.size) (hg : g < w.heap.size) (hi : i < n) (hk : k < n) (hn : n ≤ 1000)
    (hx : EnAt w g (off + i * 9) x) (hy : EnAt w g (off + k * 9) y) (fx : FrR w x) (fy : FrR w y) {r : Bool} (hr : ltE x y = r) :
    Calls Tryz.prog 37 #[.pointer (some ⟨qb, 0, none⟩), .int .i64 i, .int .i64 k] w fun e w' => e = .returned (.bool r) ∧ Below w.heap.size w w' := by
  have HX := Lib.hid hx
  have HY := Lib.hid hy
  have FX := Lib.hid fx
  have FY := Lib.hid fy
  have C1 := Lib.hid c1
  have HQ := Lib.hid hq
  have HG := Lib.hid hg
  obtain ⟨o, ho⟩ : ∃ o, ordJ x.j y.j = o := ⟨_, rfl⟩
  have HO := Lib.hid ho
  have hro : decide (o < 0) = r := by rw [← hr, ← ho]; rfl
  have hik : (i : Int) < (n : Int) := by omega
  have hkk : (k : Int) < (n : Int) := by omega
  clear hx hy fx fy c1 hq hg ho hr
  go_enter Tryz.func37, Tryz.ntmps37
  go_wp2_with fail
  refine wp_region_grow (Below w.heap.size w) (by kernel_rfl) (by kernel_rfl) (Below.refl _ _).drew ?_
  repeat first
           | (apply gRow_plain
              · exact rfl
              · intro wg hg
                ((have e1 := (hg.cell (p := ⟨qb, 1, none⟩) HQ.out).trans C1.out; obtain ⟨x0, x1, x2, x3, x4, x5, x6⟩ := HX.out.keep HG.out hg; obtain ⟨y0, y1, y2, y3, y4, y5, y6⟩ := HY.out.keep HG.out hg))
                go_simp
                first
                  | exact rfl
                  | exact hg
                  | exact ⟨hg, rfl⟩
                  | ((first
| ((with_reducible refine (order_as FX.out.ok FY.out.ok (FX.out.keep hg).num.rd (FX.out.keep hg).den.rd (FY.out.keep hg).num.rd (FY.out.keep hg).den.rd HO.out).mono ?_); rintro e w' ⟨rfl, hb⟩; exact ⟨rfl, hg.trans (hb.mono hg.size)⟩)))
              intro K hK
              go_simp
              refine hK _ ?_
              clear hK K)
           | (apply gRow_step
              · go_simp; done
              · intro wg hg
                ((have e1 := (hg.cell (p := ⟨qb, 1, none⟩) HQ.out).trans C1.out; obtain ⟨x0, x1, x2, x3, x4, x5, x6⟩ := HX.out.keep HG.out hg; obtain ⟨y0, y1, y2, y3, y4, y5, y6⟩ := HY.out.keep HG.out hg))
                go_simp
                first
                  | exact rfl
                  | exact hg
                  | exact ⟨hg, rfl⟩
                  | ((first
| ((with_reducible refine (order_as FX.out.ok FY.out.ok (FX.out.keep hg).num.rd (FX.out.keep hg).den.rd (FY.out.keep hg).num.rd (FY.out.keep hg).den.rd HO.out).mono ?_); rintro e w' ⟨rfl, hb⟩; exact ⟨rfl, hg.trans (hb.mono hg.size)⟩)))
              intro K hK
              go_simp
              refine hK _ ?_
              clear hK K)
           | (apply gRow_not
              · go_simp; done
              intro K hK
              go_simp
              refine hK _ ?_
              clear hK K)
  refine gRow_nil ?_
  intro w6 hb6
  have HB6 := Lib.hid hb6
  clear hb6
  go_wp2_with fail
  go_ret
  exact ⟨rfl, HB6.out⟩
end Go.Proofs.YtgnmolleaengaaaGreat
