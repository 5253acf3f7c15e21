/- The walks of the reference's Revoke, Commit, Advance and Version. -/
import Derived.Test.YtnhpjmjinchamaaRd
set_option linter.unusedVariables false
set_option linter.unusedSimpArgs false
set_option linter.unnecessarySimpa false
namespace Go.Proofs.Ytnhpjmjinchamaa
open Go Go.RowKit

def cutR (R : Rf) (i : Nat) : Rf := { R with L := R.L.take i ++ R.L.drop (i + 1) }
theorem cut_as {w : World} {B rb : Nat} {R R' : Rf} (h : RfAt w B rb R) {i : Nat} (hi : i < R.L.length) (hR : cutR R i = R') : Calls Try.prog 54 #[.pointer (some ⟨rb, 0, none⟩), .int .i64 i] w (RefPost w B rb R' (.tuple #[])) := hR ▸ cut_any h i hi

/-- a method's worlds: the reference's table, and the block of its result -/
structure Rp (w : World) (B rb : Nat) (R : Rf) (b0 : Nat) (c : Array Value) (w' : World) : Prop where
  rf : RfAt w' B rb R
  only : Only [rb] w w'
  box : Holds w' b0 c
  new : w.heap.size ≤ b0
  ne : rb ≠ b0
  sep0 : Sep w' rb b0
  sep : ∀ b, b < w.heap.size → Sep w rb b → Sep w' rb b
namespace Rp
variable {w w1 w' : World} {B rb b0 : Nat} {R R' : Rf} {c : Array Value}
theorem start (h : RfAt w B rb R) (c : Array Value) (t : TypeId) : Rp w B rb R w.heap.size c (w.alloc (.cells c t)) := by
  have hb := below_alloc w (.cells c t)
  refine ⟨h.below hb, Only.of_below _ hb, Holds.new _ _ _, Nat.le_refl _, by have := h.lt; omega, fun vL hv q => ?_, fun b hlt hs => hs.below h hb⟩
  obtain ⟨vL', h1, h2, _⟩ := h.row
  have e := (hb.cell (p := ⟨rb, 96, none⟩) h.lt).trans h1
  rw [hv] at e
  cases e
  have := (h2.lt _ q).2
  omega
theorem call (h : Rp w B rb R b0 c w1) (hb : Below w1.heap.size w1 w') : Rp w B rb R b0 c w' :=
  ⟨h.rf.below hb, h.only.trans (Only.of_below _ hb), h.box.keep hb, h.new, h.ne, h.sep0.below h.rf hb, fun b hlt hs => (h.sep b hlt hs).below h.rf hb⟩
theorem turn (h : Rp w B rb R b0 c w1) (k : RfAt w' B rb R') (ho : Only [rb] w1 w') (hs : ∀ b, b < w1.heap.size → Sep w1 rb b → Sep w' rb b) : Rp w B rb R' b0 c w' :=
  ⟨k, h.only.trans ho, h.box.only ho (by simpa using fun e => h.ne e.symm), h.new, h.ne, hs b0 h.box.lt h.sep0, fun b hlt hh => hs b (Nat.lt_of_lt_of_le hlt h.only.size) (h.sep b hlt hh)⟩
theorem post {v : Value} {e : Ending} (h : Rp w B rb R b0 c w1) (ho : RefPost w1 B rb R' v e w') : e = .returned v ∧ Rp w B rb R' b0 c w' := ⟨ho.1, h.turn ho.2.1 ho.2.2.1 ho.2.2.2⟩
theorem set (h : Rp w B rb R b0 c w1) (i : Nat) (v : Value) : Rp w B rb R b0 (c.setIfInBounds i v) (w1.setCell ⟨b0, i, none⟩ v) := by
  have oth : ∀ k, k ≠ b0 → (w1.setCell ⟨b0, i, none⟩ v).heap[k]? = w1.heap[k]? := fun k hk => Below.heap_setCell _ _ _ _ hk
  have hc : ∀ j, (w1.setCell ⟨b0, i, none⟩ v).cell? ⟨rb, j, none⟩ = w1.cell? ⟨rb, j, none⟩ := fun j => World.cell?_of_block (w := w1) (a := ⟨rb, j, none⟩) (oth rb h.ne)
  obtain ⟨vL, h1, h2, h3⟩ := h.rf.row
  refine ⟨⟨h.rf.base, by simpa using h.rf.lt, fun v f hv hf => (hc _).trans (h.rf.giv v f hv hf), ⟨vL, (hc _).trans h1, owns_same h2 fun k hkk => oth k (fun q => h.sep0 vL h1 (by rw [hkk, q])), h3⟩, (hc _).trans h.rf.num, (hc _).trans h.rf.cnt, h.rf.thaw.setCell _ _, h.rf.short⟩, h.only.setCell (.inr h.new) _ _, h.box.set i v, h.new, h.ne, fun vL' hv => h.sep0 vL' ((hc _).symm.trans hv), fun b hlt hs vL' hv => h.sep b hlt hs vL' ((hc _).symm.trans hv)⟩
theorem put6 {c0 c1 c2 c3 c4 c5 : Value} (h : Rp w B rb R b0 #[c0, c1, c2, c3, c4, c5] w1) (a0 a1 a2 a3 a4 a5 : Value) :
    Rp w B rb R b0 #[a0, a1, a2, a3, a4, a5] ((((((w1.setCell ⟨b0, 0, none⟩ a0).setCell ⟨b0, 1, none⟩ a1).setCell ⟨b0, 2, none⟩ a2).setCell ⟨b0, 3, none⟩ a3).setCell ⟨b0, 4, none⟩ a4).setCell ⟨b0, 5, none⟩ a5) := by
  have := (((((h.set 0 a0).set 1 a1).set 2 a2).set 3 a3).set 4 a4).set 5 a5
  simpa using this
theorem out (h : Rp w B rb R b0 c w1) : RfAt w1 B rb R ∧ Only [rb] w w1 ∧ ∀ b, b < w.heap.size → Sep w rb b → Sep w1 rb b := ⟨h.rf, h.only, h.sep⟩
end Rp

def rrevokeF (R : Rf) (v f : Int) : (Ls × Int) × Rf :=
  if fragB v f then
    if findN (isF v f true) R.L < 0 then ((noL, 110), R) else ((R.L.getD (findN (isF v f true) R.L).toNat noL, 0), cutR R (findN (isF v f true) R.L).toNat)
  else ((noL, 5), R)

set_option maxRecDepth 20000 in
set_option maxHeartbeats 2000000 in
theorem rrevoke_any {w : World} {B rb : Nat} {R : Rf} (h : RfAt w B rb R) (v f : Int) : Calls Try.prog 37 #[.pointer (some ⟨rb, 0, none⟩), .int .i64 v, .int .i64 f] w
    (RefPost w B rb (rrevokeF R v f).2 (.tuple #[lv (rrevokeF R v f).1.1, .int .i64 (rrevokeF R v f).1.2])) := by
  have HS := Lib.hid (Rp.start h (lc noL) 46)
  unfold rrevokeF
  obtain ⟨q1, h1⟩ : ∃ q, fragB v f = q := ⟨_, rfl⟩
  obtain ⟨k, hk⟩ : ∃ q, findN (isF v f true) R.L = q := ⟨_, rfl⟩
  rw [h1, hk]
  have H1 := Lib.hid h1
  have H5 := Lib.hid hk
  clear h1
  cases q1 with
  | false =>
    clear h hk
    simp only [Bool.false_eq_true, if_false]
    go_enter Try.func37, Try.ntmps37
    go_wp2_with (first
      | (go_at_call 50; (with_reducible refine (rfrag_as H1.out _).mono ?_); rintro e w1 ⟨rfl, rfl⟩))
    exact bodyPost_ret (v := .tuple #[lv noL, .int .i64 5]) (by simp [results, Try.results37, go_sem]) rfl ⟨rfl, HS.out.out⟩
  | true =>
    simp only [if_true]
    by_cases hk0 : k < 0
    · rw [if_pos hk0]
      clear h hk
      go_enter Try.func37, Try.ntmps37
      go_wp2_with (first
        | (go_at_call 50; (with_reducible refine (rfrag_as H1.out _).mono ?_); rintro e w1 ⟨rfl, rfl⟩)
        | (go_at_call 52; (with_reducible refine (find_as HS.out.rf H5.out).mono ?_); rintro e w1 ⟨rfl, rfl⟩))
      exact bodyPost_ret (v := .tuple #[lv noL, .int .i64 110]) (by simp [results, Try.results37, go_sem]) rfl ⟨rfl, HS.out.out⟩
    · rw [if_neg hk0]
      obtain ⟨hi1, hi2⟩ := findN_lt hk (by omega)
      obtain ⟨i, hi⟩ : ∃ i, i = k.toNat := ⟨_, rfl⟩
      rw [← hi] at hi1 hi2 ⊢
      obtain ⟨l, hl⟩ : ∃ l, R.L[i]? = some l := ⟨R.L[i], by simp [hi1]⟩
      have hgd : R.L.getD i noL = l := by simp [hl]
      have hsh := h.short
      have hlt := h.lt
      obtain ⟨vL, c96, hrow, -⟩ := h.row
      obtain ⟨g, cap, rfl, -, hgl, hcell⟩ := rows_at hrow hl
      have y0 := hcell 0 _ rfl
      have y1 := hcell 1 _ rfl
      have y2 := hcell 2 _ rfl
      have y3 := hcell 3 _ rfl
      have y4 := hcell 4 _ rfl
      have y5 := hcell 5 _ rfl
      simp only [Nat.add_zero] at y0
      obtain ⟨R', hR⟩ : ∃ R', cutR R i = R' := ⟨_, rfl⟩
      have HR := Lib.hid hR
      have HI := Lib.hid hi1
      rw [hgd, hR]
      obtain ⟨m, hm⟩ : ∃ m, m = R.L.length := ⟨_, rfl⟩
      rw [← hm] at c96 hi1 hsh
      subst hi2
      clear hcell hrow hl hgd hk hi hm hR h
      go_enter Try.func37, Try.ntmps37
      go_wp2_with (first
        | (go_at_call 50; (with_reducible refine (rfrag_as H1.out _).mono ?_); rintro e w1 ⟨rfl, rfl⟩)
        | (go_at_call 52; (with_reducible refine (find_as HS.out.rf H5.out).mono ?_); rintro e w1 ⟨rfl, rfl⟩)
        | (go_at_call 54; (with_reducible refine (cut_as (HS.out.call (below_alloc _ _)).rf HI.out HR.out).mono ?_); intro e w2 ho; have HS2 := Lib.hid ((HS.out.call (below_alloc _ _)).post ho).2; have HB : Holds w2 (w.heap.size + 1) (lc l) := (by have hh := Holds.only (Holds.new (w.alloc (.cells (lc noL) 46)) (lc l) 46) ho.2.2.1 (by simp; omega); rw [World.size_alloc] at hh; exact hh); obtain ⟨rfl, -⟩ := ho; obtain ⟨d0, d1, d2, d3, d4, d5, -⟩ := HB.lay6; clear HB; obtain ⟨b0, b1, b2, b3, b4, b5, bf0, bf1, bf2, bf3, bf4, bf5, bl⟩ := HS2.out.box.lay6))
      have HS5 := HS2.out.put6 (.int .i64 l.vol) (.int .i64 l.frag) (.int .i64 l.drive) (.int .i64 l.ext) (.int .i64 l.gen) (.bool l.mov)
      clear d0 d1 d2 d3 d4 d5 b0 b1 b2 b3 b4 b5 bf0 bf1 bf2 bf3 bf4 bf5 bl
      refine bodyPost_ret (v := .tuple #[lv l, .int .i64 0]) ?_ rfl ⟨rfl, HS5.out⟩
      obtain ⟨c0, c1, c2, c3, c4, c5, -⟩ := HS5.box.lay6
      simp [results, Try.results37, go_sem, c0, c1, c2, c3, c4, c5]
end Go.Proofs.Ytnhpjmjinchamaa
