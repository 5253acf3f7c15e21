/- The walk of chosen: rows of a word without some. -/
import Derived.Test.YtojfeldafbabeaaFo
set_option linter.unusedVariables false
set_option linter.unusedSimpArgs false
set_option linter.unnecessarySimpa false
namespace Go.Proofs.Ytojfeldafbabeaa
open Go.RowKit Go.Mem Go.Deep

def chIdx (f n i : Nat) : Nat := (f + i) % n
def chFs (f n : Nat) (word : List (List Nat)) (is : List Nat) : List Frag := is.map fun i => ((chIdx f n i : Nat), word.getD (chIdx f n i) [])
def ChPost (f k : Nat) (word : List (List Nat)) (w : World) (e : Ending) (w' : World) : Prop := ∃ (is : List Nat) (v : Value), e = .returned v ∧ Frags w' v (chFs f word.length word is) ∧ Below w.heap.size w w' ∧ is.Pairwise (· < ·) ∧ (∀ i ∈ is, i < word.length) ∧ k ≤ is.length

set_option maxHeartbeats 1000000 in
theorem chosen_any (k f z : Nat) (word : List (List Nat)) (vw : Value) (w : World) (hw : Mat w vw word) (h8 : word.length ≤ 8) (hk : k ≤ word.length) (hf : f < word.length) (hz : z < 256) :
    Calls Try.prog 25 #[vw, .int .i64 k, .int .i64 f, .int .u8 z] w (ChPost f k word w) := by
  obtain ⟨wa, wcap, rfl, _⟩ := hw.open
  obtain ⟨n, hn⟩ : ∃ n, n = word.length := ⟨_, rfl⟩
  rw [← hn] at hw h8 hk hf ⊢
  have HW := Lib.hid hw
  have HN := Lib.hid hn
  clear hw hn
  go_enter Try.func25, Try.ntmps25
  go_wp2_with fail
  go_loopw [9, 10, 11] (fun v g i wr => ∃ (j c : Nat) (is : List Nat) (ys : Nat → Value), j ≤ n ∧ i = .int .i64 j ∧ g = .int .i64 c ∧ is.length + c = j ∧ c ≤ n - k ∧ Below w.heap.size w wr ∧ FragsO wr w.heap.size v ys (chFs f n word is) ∧ is.Pairwise (· < ·) ∧ ∀ i ∈ is, i < j) (fun _ _ i _ => n - (intOf i).toNat)
  case atStart => exact ⟨0, 0, [], fun _ => undef, by omega, rfl, rfl, rfl, by omega, Below.refl _ _, FragsO.nil _ _ _, List.Pairwise.nil, by simp⟩
  case round =>
    rename World => wr
    obtain ⟨j, c, is, ys, hj, rfl, rfl, hlc, hcn, hbel, hfr, hpw, hlt⟩ := hrel
    have HB := Lib.hid hbel
    have HF := Lib.hid hfr
    have HP := Lib.hid hpw
    have HLT := Lib.hid hlt
    have HLC := Lib.hid hlc
    clear hbel hfr hpw hlt hlc
    by_cases hjn : j < n
    · obtain ⟨x, hx⟩ : ∃ x, x = chIdx f n j := ⟨_, rfl⟩
      have hxn : x < n := by rw [hx]; exact Nat.mod_lt _ (by omega)
      have hrem : ((f : Int) + j).tmod n = x := by rw [hx]; unfold chIdx; rw [Int.tmod_eq_emod_of_nonneg (by omega)]; simp
      have HX := Lib.hid hx
      clear hx
      obtain ⟨ob, oo, y, he, hob, hc, hy⟩ := HW.out.cell (i := x) (by have := HN.out; omega)
      subst he
      have hc' := (HB.out.cell (p := ⟨ob, oo + x, none⟩) hob).trans hc
      have HY := Lib.hid (Kept.came (e := 5) hy HB.out (Nat.le_refl _))
      obtain ⟨ya, ycap, rfl, _⟩ := hy.open
      obtain ⟨L, hL⟩ : ∃ L, L = (word.getD x []).length := ⟨_, rfl⟩
      rw [← hL] at hc' HY
      clear hc hy hL
      have hstep : Hid (∀ (v' : Value) (w4 : World) (ys' : Nat → Value), FragsO w4 w.heap.size v' ys' (chFs f n word is ++ [((x : Int), word.getD x [])]) → FragsO w4 w.heap.size v' ys' (chFs f n word (is ++ [j]))) := Lib.hid fun v' w4 ys' h => by
        have e : chFs f n word (is ++ [j]) = chFs f n word is ++ [((x : Int), word.getD x [])] := by unfold chFs; rw [List.map_append, HX.out]; rfl
        rw [e]; exact h
      have hpw2 : Hid ((is ++ [j]).Pairwise (· < ·)) := Lib.hid (by
        rw [List.pairwise_append]
        exact ⟨HP.out, by simp, fun a ha b hb => by simp at hb; subst hb; exact HLT.out a ha⟩)
      have hlt2 : Hid (∀ i ∈ is ++ [j], i < j + 1) := Lib.hid (fun i hi => by
        rcases List.mem_append.1 hi with h | h
        · have := HLT.out i h; omega
        · simp at h; omega)
      by_cases hcn2 : (c : Int) < (n : Int) - k
      · have hd : decide ((c : Int) < (n : Int) - k) = true := by simpa using hcn2
        go_wp2_with (at_builtin; refine app_frag (w0 := w) (W := wr) rfl (.tmp 41) (.tmp 48) rfl (l := word.getD x []) is.length HF.out (by unfold chFs; simp) (by have := HLC.out; omega) HY.out HB.out HB.out.size (by rfl) rfl rfl ?_; intro v' w4 h4)
        · go_roundw
          case rel => exact ⟨j + 1, c + 1, is, ys, by omega, by go_num, by go_num, by have := HLC.out; omega, by omega, HB.out, HF.out, HP.out, fun i hi => by have := HLT.out i hi; omega⟩
          case measure => simp [intOf]; omega
        · go_roundw
          case rel => exact ⟨j + 1, c, is ++ [j], _, by omega, by go_num, by go_num, by have := HLC.out; simp; omega, by omega, h4.out.2.1, hstep.out _ _ _ h4.out.1, hpw2.out, hlt2.out⟩
          case measure => simp [intOf]; omega
      · have hd : decide ((c : Int) < (n : Int) - k) = false := by simpa using hcn2
        go_wp2_with (at_builtin; refine app_frag (w0 := w) (W := wr) rfl (.tmp 41) (.tmp 48) rfl (l := word.getD x []) is.length HF.out (by unfold chFs; simp) (by have := HLC.out; omega) HY.out HB.out HB.out.size (by rfl) rfl rfl ?_; intro v' w4 h4)
        all_goals go_roundw
        all_goals first | exact ⟨j + 1, c, is ++ [j], _, by omega, by go_num, by go_num, by have := HLC.out; simp; omega, by omega, h4.out.2.1, hstep.out _ _ _ h4.out.1, hpw2.out, hlt2.out⟩ | (simp [intOf]; omega)
    · obtain rfl : j = n := by omega
      go_wp2_with fail
      go_ret
      have hfs := HF.out.frags (by unfold chFs; simp; have := HLC.out; omega)
      exact ⟨is, _, rfl, by rw [← HN.out]; exact hfs, HB.out, HP.out, fun i hi => by rw [← HN.out]; exact HLT.out i hi, by have := HLC.out; omega⟩
end Go.Proofs.Ytojfeldafbabeaa
