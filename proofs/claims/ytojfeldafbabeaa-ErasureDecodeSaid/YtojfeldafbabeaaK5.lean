/- The walk of word: the code word of some data, row by row. -/
import Derived.Test.YtojfeldafbabeaaK3
import Derived.Test.YtojfeldafbabeaaC4
import Derived.Test.YtojfeldafbabeaaK4
import Derived.Test.YtojfeldafbabeaaRw
import Derived.Test.YtojfeldafbabeaaI1
set_option linter.unusedVariables false
set_option linter.unusedSimpArgs false
set_option linter.unnecessarySimpa false
namespace Go.Proofs.Ytojfeldafbabeaa
open Go.RowKit Go.Mem Go.Deep

/-- one row appended to a slice of rows of the call's own -/
theorem app_row {ops : Array Oper} {rest : List Oper} {o : Oper} {a : Act} {Q : Exit → Act → World → Prop} (hgd : o.guard = none) (s x : Operand)
    (ho : o.op = .call { callee := .builtin .append, args := #[s, x], argTypes := #[22, 22] }) {w0 W : World} {B : Nat} {v y : Value} {vs : List Value} {rows : List (List Nat)} {l : List Nat} (n : Nat)
    (h : RowsO W B 31 5 v vs rows) (hl : rows.length = n) (hn : n ≤ 1000) (hy : Kept W B 5 y l) (hb : Below B w0 W) (hB : B ≤ W.heap.size) (hs : a.eval s = v) (hx : a.eval x = .slice (some ⟨W.heap.size, 0, none⟩) 1 1)
    (hK : ∀ v' w', Hid (RowsO w' B 31 5 v' (vs ++ [y]) (rows ++ [l]) ∧ Below B w0 w') → wpList Try.prog ops Q rest (a.put o.dst v') w') : wpList Try.prog ops Q (o :: rest) a (W.alloc (.cells #[y] 31)) := by
  obtain ⟨i29, hi, hz0, hz1, hz2⟩ := info_parts info29
  subst hl
  obtain ⟨ya, ycap, rfl, _⟩ := hy.1.open
  refine wpList_append_own _ hgd s x 22 ho B 31 i29 (.slice none 0 0) 1 24 Try.underlying22 hi hz0 hz1 hz2 rfl (by decide) v rows.length vs hs (h.outer.alloc _) ⟨W.heap.size, 0, none⟩ 1 1 [.slice ya l.length ycap] hx rfl (by intro j u hj; match j, hj with | 0, hj => (simp at hj; subst hj; simp [Addr.add])) (by intro u hu; simp at hu; subst hu; rfl) (by unfold maxLen; omega) (by omega) (by simp; omega) ?_
  intro v' w' h2 h3 _
  refine hK v' w' (show _ ∧ _ from ⟨?_, (hb.alloc hB _).grown h3 (by simp; omega) (fun b hb => (h.outer.lt b hb).1)⟩)
  have hb1 : Below W.heap.size W (W.alloc (.cells #[.slice ya l.length ycap] 31)) := (Below.refl _ _).alloc (Nat.le_refl _) _
  exact (h.below hb1).push (by decide) rfl (hy.below hb1) h2 h3

def wordTo (k : Nat) (data : List (List Nat)) (a : Nat) : List (List Nat) := (List.range a).map fun i => GF.comb (genRow k i) data
theorem wordTo_len (k : Nat) (data : List (List Nat)) (a : Nat) : (wordTo k data a).length = a := by simp [wordTo]
theorem wordTo_succ (k : Nat) (data : List (List Nat)) (a : Nat) : wordTo k data (a + 1) = wordTo k data a ++ [GF.comb (genRow k a) data] := by simp [wordTo, List.range_succ]
theorem wordTo_getD (k : Nat) (data : List (List Nat)) (a i : Nat) (hi : i < a) : (wordTo k data a).getD i [] = GF.comb (genRow k i) data := by simp [wordTo, hi]

/-- a slice of rows of the call's own -/
def RowsPost (rows : List (List Nat)) (w : World) (e : Ending) (w' : World) : Prop := ∃ v vs, e = .returned v ∧ RowsO w' w.heap.size 31 5 v vs rows ∧ Below w.heap.size w w'

theorem genRow_len (k a : Nat) : (genRow k a).length = k := by simp [genRow]
theorem fit_gen {k a : Nat} {data : List (List Nat)} (hk : 1 ≤ k) (hl : data.length = k) (hv : Level data) : GF.Fit (genRow k a) data := ⟨by rw [genRow_len]; omega, by rw [genRow_len, hl], hv⟩

set_option maxHeartbeats 1000000 in
theorem word_any (k m : Nat) (data : List (List Nat)) (vd : Value) (w : World) (hd : Mat w vd data) (hk : 1 ≤ k) (hk6 : k ≤ 6) (hkm : k + m ≤ 8) (hl : data.length = k) (hv : Level data) (hb : (data.getD 0 []).length ≤ 2000) :
    Calls Try.prog 32 #[.int .i64 k, .int .i64 m, vd] w (RowsPost (wordTo k data (k + m)) w) := by
  obtain ⟨i29, hi29, hz290, hz291, hz292⟩ := info_parts info29
  have HD := Lib.hid hd
  have HL := Lib.hid hl
  have HV := Lib.hid hv
  have HLB := Lib.hid hb
  clear hd hl hv hb
  go_enter Try.func32, Try.ntmps32
  go_wp2_with ((at_make; refine wpList_make_own _ rfl (.const (.int .i64 0)) (.tmp 13) 22 rfl w.heap.size 31 i29 (.slice none 0 0) 1 Try.underlying22 hi29 hz290 hz291 .i64 .i64 (k + m : Int) (k + m) rfl rfl (by omega) (by rw [hz292]; omega) (by unfold maxLen; omega) (Nat.le_refl _) ?_; intro w1 hm1 hm2; have HM := Lib.hid (And.intro hm1 hm2); clear hm1 hm2))

  go_loopw [7, 8] (fun v i wr => ∃ (j : Nat) (vs : List Value), j ≤ k + m ∧ i = .int .i64 j ∧ Below w.heap.size w wr ∧ RowsO wr w.heap.size 31 5 v vs (wordTo k data j)) (fun _ i _ => k + m - (intOf i).toNat)
  case atStart =>
    exact ⟨0, [], by omega, rfl, (Below.refl _ _).grown HM.out.2 (Nat.le_refl _) (by simp), RowsO.made HM.out.1 5⟩
  case round =>
    rename World => wr
    obtain ⟨j, vs, hj, rfl, hbel, hrow⟩ := hrel
    have HB := Lib.hid hbel
    have HR := Lib.hid hrow
    clear hbel hrow
    by_cases hjk : j < k + m
    · go_wp2_with (first | (go_at_call 42; go_loud (refine (coeffs_any _ _ _ (by omega) (by omega)).mono ?_); rintro e w2 ⟨vc, rfl, hc1, _, hc2⟩; have HC := Lib.hid (And.intro hc1 hc2); clear hc1 hc2) | (go_at_call 41; go_loud (refine (combine_fit (genRow k j) data _ _ _ HC.out.1 (HD.out.below (HB.out.trans (HC.out.2.mono HB.out.size)) (Nat.le_refl _)) (fit_gen hk HL.out HV.out) HLB.out).mono ?_); rintro e w3 ⟨_, rfl, ⟨hc3, ⟨rb, rn, rcap, rc, rfl, _, hc4⟩⟩, hc5⟩; have HR3 := Lib.hid (And.intro (Kept.fresh (B := w.heap.size) hc3 rfl hc4) (And.intro True.intro hc5)); clear hc3 hc4 hc5) | (at_builtin; go_loud (refine app_row (w0 := w) rfl (.tmp 30) (.tmp 32) rfl (l := GF.comb (genRow k j) data) j ((HR.out.below HC.out.2).below HR3.out.2.2) (wordTo_len _ _ _) (by omega) HR3.out.1 ((HB.out.trans (HC.out.2.mono HB.out.size)).trans (HR3.out.2.2.mono (by have := HB.out.size; have := HC.out.2.size; omega))) (by have := HB.out.size; have := HC.out.2.size; have := HR3.out.2.2.size; omega) rfl rfl ?_); intro v' w4 h4))
      go_roundw
      case rel =>
        exact ⟨j + 1, _, by omega, by go_num, h4.out.2, by rw [wordTo_succ]; exact h4.out.1⟩
      case measure => simp [intOf]; omega
    · have hje := Lib.hid (show j = k + m by omega)
      go_wp2_with fail
      go_ret
      exact ⟨_, _, rfl, by rw [← hje.out]; exact HR.out, HB.out⟩
end Go.Proofs.Ytojfeldafbabeaa
