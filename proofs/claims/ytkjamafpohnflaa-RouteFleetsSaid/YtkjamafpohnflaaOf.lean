/- A fleet from the form. -/
import Derived.Test.YtkjamafpohnflaaF1
set_option linter.unusedVariables false
set_option linter.unusedSimpArgs false
set_option linter.unnecessarySimpa false
namespace Go.Proofs.Ytkjamafpohnflaa
open Go Go.ChangeShapes Go.WideShapes Go.ChangeAt Go.RowKit Go.Deep Go.Joins
theorem list3 {α : Type} {l : List α} (h : l.length = 3) : ∃ a b c, l = [a, b, c] := by
  match l, h with
  | [a, b, c], _ => exact ⟨a, b, c, rfl⟩
theorem list4 {α : Type} {l : List α} (h : l.length = 4) : ∃ a b c d, l = [a, b, c, d] := by
  match l, h with
  | [a, b, c, d], _ => exact ⟨a, b, c, d, rfl⟩
theorem list5 {α : Type} {l : List α} (h : l.length = 5) : ∃ a b c d e, l = [a, b, c, d, e] := by
  match l, h with
  | [a, b, c, d, e], _ => exact ⟨a, b, c, d, e, rfl⟩
theorem list7 {α : Type} {l : List α} (h : l.length = 7) : ∃ a b c d e f g, l = [a, b, c, d, e, f, g] := by
  match l, h with
  | [a, b, c, d, e, f, g], _ => exact ⟨a, b, c, d, e, f, g, rfl⟩
def iv : Value → Int
  | .int _ n => n
  | _ => 0
def GoodD (cs : List Value) : Prop := ∃ s lv p u ng na nl nc da dl dc, cs = [.string s, .int .i64 lv, .int .i64 p, .int .i64 u, .bool ng, .slice na nl nc, .slice da dl dc]
def GoodR (cs : List Value) : Prop := ∃ s mo ma, cs = [.string s, .int .i64 mo, .int .i64 ma]
def GoodM (cs : List Value) : Prop := ∃ c0 c1 po c3, cs = [c0, c1, .int .i64 po, c3]
section
variable {H : Type} {enc : TypeId × Value → H} {w : World} {base : Nat} {held : Bool} {fuel : Nat} {cs : List Value} {v : Value} {y : DataW H × List MemPlace}
theorem c3 : Try.prog.cellsOf 3 = 1 := by kernel_rfl
theorem c9 : Try.prog.cellsOf 9 = 1 := by kernel_rfl
theorem c4' : Try.prog.cellsOf 4 = 1 := by kernel_rfl
theorem c64 : Try.prog.cellsOf 64 = 1 := by kernel_rfl
theorem c66 : Try.prog.cellsOf 66 = 3 := by kernel_rfl
theorem c35 : Try.prog.cellsOf 35 = 1 := by kernel_rfl
theorem c36 : Try.prog.cellsOf 36 = 1 := by kernel_rfl
theorem c37 : Try.prog.cellsOf 37 = 1 := by kernel_rfl
theorem c38 : Try.prog.cellsOf 38 = 1 := by kernel_rfl
theorem c39 : Try.prog.cellsOf 39 = 1 := by kernel_rfl
theorem c40 : Try.prog.cellsOf 40 = 1 := by kernel_rfl
theorem one_string {t : TypeId} (ht : Try.prog.underlying t = some .string) (h : DataW.trod enc Try.prog w base (fun _ => true) held fuel t [v] = some y) : ∃ s, v = .string s := by
  obtain ⟨s, e, _⟩ := DataW.trod_string ht h
  simp at e
  exact ⟨s, e⟩
theorem one_bool {t : TypeId} (ht : Try.prog.underlying t = some .bool) (h : DataW.trod enc Try.prog w base (fun _ => true) held fuel t [v] = some y) : ∃ b, v = .bool b := by
  obtain ⟨s, e, _⟩ := DataW.trod_bool ht h
  simp at e
  exact ⟨s, e⟩
theorem one_slice {t e : TypeId} (ht : Try.prog.underlying t = some (.slice e)) (h : DataW.trod enc Try.prog w base (fun _ => true) held fuel t [v] = some y) : ∃ a l c, v = .slice a l c := by
  rcases open_slice ht h with ⟨hcs, _⟩ | ⟨x, len, cap, m, n, D, Pl, hcs, _⟩
  · simp at hcs; exact ⟨_, _, _, hcs⟩
  · simp at hcs; exact ⟨_, _, _, hcs⟩
theorem good_frac (hl : cs.length = 3) (h : DataW.trod enc Try.prog w base (fun _ => true) held fuel 66 cs = some y) : ∃ ng na nl nc da dl dc, cs = [.bool ng, .slice na nl nc, .slice da dl dc] := by
  obtain ⟨xs, n, _, rfl, _, hlen, hf⟩ := DataW.trod_struct Try.underlying66 h
  obtain ⟨a0, a1, a2, rfl⟩ := list3 hl
  obtain ⟨y0, y1, y2, rfl⟩ := list3 (hlen.trans rfl)
  have h0 := hf 0 _ rfl
  have h1 := hf 1 _ rfl
  have h2 := hf 2 _ rfl
  simp [c4', c64] at h0 h1 h2
  obtain ⟨ng, rfl⟩ := one_bool Try.underlying4 h0
  obtain ⟨_, _, _, rfl⟩ := one_slice Try.underlying64 h1
  obtain ⟨_, _, _, rfl⟩ := one_slice Try.underlying64 h2
  exact ⟨_, _, _, _, _, _, _, rfl⟩
theorem good_dom (hl : cs.length = 7) (h : DataW.trod enc Try.prog w base (fun _ => true) held fuel 68 cs = some y) : GoodD cs := by
  obtain ⟨xs, n, _, rfl, _, hlen, hf⟩ := DataW.trod_struct Try.underlying68 h
  obtain ⟨a0, a1, a2, a3, a4, a5, a6, rfl⟩ := list7 hl
  obtain ⟨y0, y1, y2, y3, y4, rfl⟩ := list5 (hlen.trans rfl)
  have h0 := hf 0 _ rfl
  have h1 := hf 1 _ rfl
  have h2 := hf 2 _ rfl
  have h3 := hf 3 _ rfl
  have h4 := hf 4 _ rfl
  simp [c3, c9, c66] at h0 h1 h2 h3 h4
  obtain ⟨_, rfl⟩ := one_string Try.underlying9 h0
  obtain ⟨_, rfl, _⟩ := one_int Try.underlying3 h1
  obtain ⟨_, rfl, _⟩ := one_int Try.underlying3 h2
  obtain ⟨_, rfl, _⟩ := one_int Try.underlying3 h3
  obtain ⟨_, _, _, _, _, _, _, e⟩ := good_frac rfl h4
  simp at e
  obtain ⟨rfl, rfl, rfl⟩ := e
  exact ⟨_, _, _, _, _, _, _, _, _, _, _, rfl⟩
theorem good_drv (hl : cs.length = 3) (h : DataW.trod enc Try.prog w base (fun _ => true) held fuel 70 cs = some y) : GoodR cs := by
  obtain ⟨xs, n, _, rfl, _, hlen, hf⟩ := DataW.trod_struct Try.underlying70 h
  obtain ⟨a0, a1, a2, rfl⟩ := list3 hl
  obtain ⟨y0, y1, y2, rfl⟩ := list3 (hlen.trans rfl)
  have h0 := hf 0 _ rfl
  have h1 := hf 1 _ rfl
  have h2 := hf 2 _ rfl
  simp [c3, c9] at h0 h1 h2
  obtain ⟨_, rfl⟩ := one_string Try.underlying9 h0
  obtain ⟨_, rfl, _⟩ := one_int Try.underlying3 h1
  obtain ⟨_, rfl, _⟩ := one_int Try.underlying3 h2
  exact ⟨_, _, _, rfl⟩
theorem good_mdl (hl : cs.length = 4) (h : DataW.trod enc Try.prog w base (fun _ => true) held fuel 72 cs = some y) : GoodM cs := by
  obtain ⟨xs, n, _, rfl, _, hlen, hf⟩ := DataW.trod_struct Try.underlying72 h
  obtain ⟨a0, a1, a2, a3, rfl⟩ := list4 hl
  obtain ⟨y0, y1, y2, y3, rfl⟩ := list4 (hlen.trans rfl)
  have h2 := hf 2 _ rfl
  simp [c3, c9] at h2
  obtain ⟨_, rfl, _⟩ := one_int Try.underlying3 h2
  exact ⟨_, _, _, _, rfl⟩
theorem fleet_of {d : DataW H} {ps : List MemPlace} (hv : ∃ cs, v = .agg cs ∧ cs.size = Try.prog.cellsOf 42) (h : DataW.Trod enc Try.prog w base (fun _ => true) held 42 v d ps) :
    ∃ (ex : Int) (la : Option Addr) (ll lc : Nat) (mp : Option Addr) (nm mc : Nat) (dp : Option Addr) (nd dc : Nat) (rp : Option Addr) (nr rc : Nat) (qa : Option Addr) (ql qc : Nat) (va : Option Addr) (vl vc : Nat) (pa up mo ma po : Nat → Int),
      v = .agg #[.int .i64 ex, .slice la ll lc, .slice mp nm mc, .slice dp nd dc, .slice rp nr rc, .slice qa ql qc, .slice va vl vc] ∧ FlAt w dp rp mp nd nr nm pa up mo ma po ∧ nd ≤ 9223372036854775807 ∧ nr ≤ 9223372036854775807 ∧ nm ≤ 9223372036854775807 := by
  obtain ⟨fuel, hf0⟩ := h
  obtain ⟨⟨cs⟩, rfl, hsz⟩ := hv
  have c42 : Try.prog.cellsOf 42 = 7 := by kernel_rfl
  rw [c42] at hsz
  simp at hsz
  obtain ⟨xs, n, _, _, _, hlen, hf⟩ := DataW.trod_struct Try.underlying42 hf0
  obtain ⟨a0, a1, a2, a3, a4, a5, a6, rfl⟩ := list7 hsz
  obtain ⟨y0, y1, y2, y3, y4, y5, y6, rfl⟩ := list7 (hlen.trans rfl)
  have h0 := hf 0 _ rfl
  have h1 := hf 1 _ rfl
  have h2 := hf 2 _ rfl
  have h3 := hf 3 _ rfl
  have h4 := hf 4 _ rfl
  have h5 := hf 5 _ rfl
  have h6 := hf 6 _ rfl
  simp [Value.cells, c3, c35, c36, c37, c38, c39, c40] at h0 h1 h2 h3 h4 h5 h6
  obtain ⟨ex, rfl, _⟩ := one_int Try.underlying3 h0
  obtain ⟨la, ll, lc, rfl⟩ := one_slice Try.underlying35 h1
  obtain ⟨mp, nm, mc, fm, rfl, ⟨_, _, em, _, hm1, hm2⟩, hm3⟩ := open_rows1 Try.underlying36 (by kernel_rfl) (by decide) (Good := GoodM) (fun hl h => good_mdl hl h) h2
  obtain ⟨dp, nd, dc, fd, rfl, ⟨_, _, ed, _, hd1, hd2⟩, hd3⟩ := open_rows1 Try.underlying37 (by kernel_rfl) (by decide) (Good := GoodD) (fun hl h => good_dom hl h) h3
  obtain ⟨rp, nr, rc, fr, rfl, ⟨_, _, er, _, hr1, hr2⟩, hr3⟩ := open_rows1 Try.underlying38 (by kernel_rfl) (by decide) (Good := GoodR) (fun hl h => good_drv hl h) h4
  obtain ⟨qa, ql, qc, rfl⟩ := one_slice Try.underlying39 h5
  obtain ⟨va, vl, vc, rfl⟩ := one_slice Try.underlying40 h6
  obtain ⟨rfl, -, -⟩ := Value.slice.inj em
  obtain ⟨rfl, -, -⟩ := Value.slice.inj ed
  obtain ⟨rfl, -, -⟩ := Value.slice.inj er
  refine ⟨ex, la, ll, lc, mp, nm, mc, dp, nd, dc, rp, nr, rc, qa, ql, qc, va, vl, vc, fun i => iv ((fd i).getD 2 .nilIface), fun i => iv ((fd i).getD 3 .nilIface), fun i => iv ((fr i).getD 1 .nilIface), fun i => iv ((fr i).getD 2 .nilIface), fun i => iv ((fm i).getD 2 .nilIface), rfl, ⟨fun i hi => ?_, fun i hi => ?_, fun i hi => ?_⟩, hd1, hr1, hm1⟩
  · obtain ⟨b, off, e, hb, hc⟩ := hd2 i hi
    obtain ⟨s, lv, p, u, ng, na, nl, nc, da, dl, dc, e2⟩ := (hd3 i hi).1
    rw [e2] at hc ⊢
    exact ⟨b, off, s, lv, ng, na, nl, nc, da, dl, dc, e, hb, hc 0 _ rfl, hc 1 _ rfl, hc 2 _ rfl, hc 3 _ rfl, hc 4 _ rfl, hc 5 _ rfl, hc 6 _ rfl⟩
  · obtain ⟨b, off, e, hb, hc⟩ := hr2 i hi
    obtain ⟨s, p, u, e2⟩ := (hr3 i hi).1
    rw [e2] at hc ⊢
    exact ⟨b, off, s, e, hb, hc 0 _ rfl, hc 1 _ rfl, hc 2 _ rfl⟩
  · obtain ⟨b, off, e, hb, hc⟩ := hm2 i hi
    obtain ⟨q0, q1, p, q3, e2⟩ := (hm3 i hi).1
    rw [e2] at hc ⊢
    exact ⟨b, off, e, hb, hc 2 _ rfl⟩
end
end Go.Proofs.Ytkjamafpohnflaa
