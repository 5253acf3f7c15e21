/- The walk of the sanity check of the laws. -/
import Derived.Test.YtojfeldafbabeaaDe
set_option linter.unusedVariables false
set_option linter.unusedSimpArgs false
set_option linter.unnecessarySimpa false
namespace Go.Proofs.Ytojfeldafbabeaa
open Go.RowKit Go.Mem Go.Deep

theorem word_59 : wordTo 2 [[5], [9]] (2 + 1) = [[5], [9], [185]] := by decide +kernel
theorem below_59 {w w2 : World} {o1 o2 o3 : Obj} (hb : Below (((w.alloc o1).alloc o2).alloc o3).heap.size (((w.alloc o1).alloc o2).alloc o3) w2) : Below w.heap.size w w2 :=
  ((((Below.refl _ w).alloc (Nat.le_refl _) o1).alloc (by simp) o2).alloc (by simp; omega) o3).trans (hb.mono (by simp; omega))
def fs59 : List Frag := [(2, [185]), (0, [5])]
theorem wordOf_59 : wordOf 2 1 fs59 = [[5], [9], [185]] := by decide +kernel
theorem verdict_59 : verdict 2 1 fs59 = 0 := by
  have hc : ∀ i, i < 2 → i = 0 ∨ i = 1 := fun i hi => by omega
  refine verdict_ok (n := 2) rfl (fun i hi => ?_) (by decide) (by decide) (fun i hi => ?_) (fun i hi => ?_)
  · rcases hc i hi with rfl | rfl <;> decide
  · rw [rowsTo_len] at hi
    rcases hc i hi with rfl | rfl <;> decide
  · rw [wordOf_59]
    rcases hc i hi with rfl | rfl <;> decide
theorem verdict_nil : verdict 2 1 [] = 10 := verdict_short (n := 0) rfl (fun i hi => by omega) rfl (by decide)

theorem bytes_one (w : World) (t : TypeId) (x : Nat) (hx : x < 256) : Bytes (w.alloc (.cells #[.int .u8 x] t)) (.slice (some ⟨w.heap.size, 0, none⟩) 1 1) [x] := by
  refine ⟨⟨some ⟨w.heap.size, 0, none⟩, 1, rfl, by simp [u8s], by decide, by simp [u8s], .inr ⟨w.heap.size, 0, rfl, by simp, fun i hi => ?_⟩⟩, by simpa using hx⟩
  have : i = 0 := by simp [u8s] at hi; omega
  subst this
  rw [Nat.zero_add, World.cell?_alloc_new]
  rfl
theorem mat_59 (w : World) : Mat (((w.alloc (.cells #[.int .u8 5] 5)).alloc (.cells #[.int .u8 9] 5)).alloc (.cells #[.slice (some ⟨w.heap.size, 0, none⟩) 1 1, .slice (some ⟨w.heap.size + 1, 0, none⟩) 1 1] 31)) (.slice (some ⟨w.heap.size + 2, 0, none⟩) 2 2) [[5], [9]] := by
  refine ⟨[.slice (some ⟨w.heap.size, 0, none⟩) 1 1, .slice (some ⟨w.heap.size + 1, 0, none⟩) 1 1], ⟨some ⟨w.heap.size + 2, 0, none⟩, 2, rfl, by simp, by decide, by simp, .inr ⟨w.heap.size + 2, 0, rfl, by simp, fun i hi => ?_⟩⟩, rfl, fun i x r hx hr => ?_⟩
  · have h2 : ((w.alloc (.cells #[.int .u8 5] 5)).alloc (.cells #[.int .u8 9] 5)).heap.size = w.heap.size + 2 := by simp
    rw [← h2, Nat.zero_add, World.cell?_alloc_new]
    simp
  · have h5 := bytes_one w 5 5 (by decide)
    have h9 := bytes_one (w.alloc (.cells #[.int .u8 5] 5)) 5 9 (by decide)
    have e1 : (w.alloc (.cells #[.int .u8 5] 5)).heap.size = w.heap.size + 1 := by simp
    rw [e1] at h9
    match i, hx, hr with
    | 0, hx, hr =>
      cases hx; cases hr
      exact (h5.below ((Below.refl _ _).alloc (Nat.le_refl _) _) (Nat.le_refl _)).below ((Below.refl _ _).alloc (Nat.le_refl _) _) (Nat.le_refl _)
    | 1, hx, hr =>
      cases hx; cases hr
      exact h9.below ((Below.refl _ _).alloc (Nat.le_refl _) _) (Nat.le_refl _)
    | i + 2, hx, hr => simp at hx

theorem frags_59 {w : World} {xb xo xcap : Nat} (h : Bytes w (.slice (some ⟨xb, xo, none⟩) 1 xcap) [185]) :
    Frags ((w.alloc (.cells #[.int .u8 5] 5)).alloc (.cells #[.int .i64 2, .slice (some ⟨xb, xo, none⟩) 1 xcap, .int .i64 0, .slice (some ⟨w.heap.size, 0, none⟩) 1 1] 36)) (.slice (some ⟨w.heap.size + 1, 0, none⟩) 2 2) fs59 := by
  have e1 : (w.alloc (.cells #[.int .u8 5] 5)).heap.size = w.heap.size + 1 := by simp
  have h5 := bytes_one w 5 5 (by decide)
  have hb1 : Below w.heap.size w (w.alloc (.cells #[.int .u8 5] 5)) := (Below.refl _ _).alloc (Nat.le_refl _) _
  have hb2 : ∀ o : Obj, Below (w.alloc (.cells #[.int .u8 5] 5)).heap.size (w.alloc (.cells #[.int .u8 5] 5)) ((w.alloc (.cells #[.int .u8 5] 5)).alloc o) := fun o => (Below.refl _ _).alloc (Nat.le_refl _) _
  refine ⟨some ⟨w.heap.size + 1, 0, none⟩, 2, rfl, by decide, fun i hi => ?_⟩
  have hi2 : i < 2 := hi
  rcases (show i = 0 ∨ i = 1 by omega) with rfl | rfl
  · refine ⟨w.heap.size + 1, 0, _, rfl, by simp, ?_, ?_, (h.below hb1 (Nat.le_refl _)).below (hb2 _) (Nat.le_refl _)⟩
    · rw [← e1, World.cell?_alloc_new]; rfl
    · rw [← e1, World.cell?_alloc_new]; rfl
  · refine ⟨w.heap.size + 1, 0, _, rfl, by simp, ?_, ?_, h5.below (hb2 _) (Nat.le_refl _)⟩
    · rw [← e1, World.cell?_alloc_new]; rfl
    · rw [← e1, World.cell?_alloc_new]; rfl

theorem small_59 : ∀ i, i < fs59.length → (fragD fs59 i).2.length ≤ 2000 := by decide

set_option maxHeartbeats 1000000 in
theorem awake_any (w : World) : Calls Try.prog 12 #[] w (Yes w) := by
  go_enter Try.func12, Try.ntmps12
  go_wp2_with (first | (go_at_call 13; refine (enc_ok 2 1 [[5], [9]] _ _ (mat_59 w) (by decide) rfl ((levelB_iff _).1 (by decide)) (by decide)).mono ?_; rintro e w2 ⟨v, vs, rfl, hr, hb⟩; rw [word_59] at hr; (have hm : Mat w2 v [[5], [9], [185]] := hr.mat (by decide)); (obtain ⟨oa, ocap, hv, _⟩ := hm.open); (have hv2 : v = .slice oa 3 ocap := hv); subst hv2; (obtain ⟨ob, oo, xo, he, hob, hxo, hbo0⟩ := hm.cell (i := 2) (by decide)); subst he; (have hbo : Bytes w2 xo [185] := hbo0); (obtain ⟨xa, xcap, hx, _⟩ := hbo.open); (have hx2 : xo = .slice xa 1 xcap := hx); subst hx2; (obtain ⟨xb, xoff, he, hxb, hxc0⟩ := hbo.cell (i := 0) (by decide)); subst he; (have hxc : w2.cell? ⟨xb, xoff, none⟩ = some (.int .u8 185) := hxc0); (have HW := Lib.hid (And.intro hbo (below_59 hb))); (have hs2 := (below_59 hb).size); clear hr hm hbo hbo0 hb hv hx hxc0) | (have _t := tok1; go_at_call 19; (refine (decode_any 2 1 [] _ _ (Frags.nil _) (by decide) (fun i hi => by simp at hi) (by decide)).mono ?_); rw [verdict_nil]; rintro e w4 (⟨h, _⟩ | ⟨_, rfl, hb⟩); exact absurd h (by decide); (have hxo4 := (hb.cell (p := ⟨ob, oo + 2, none⟩) (by show ob < _; omega)).trans hxo3); (have hxc4 := (hb.cell (p := ⟨xb, xoff, none⟩) (by show xb < _; omega)).trans hxc3); (have hyo4 := (hb.cell (p := ⟨db, doff + 1, none⟩) hdb).trans hyo); (have hcv := ((HY.out.1.below hb (Nat.le_refl _)).below (Below.refl _ w4).drew (Nat.le_refl _)).conv (P := Try.prog) (src := 31) (e := 5) (dst := 9) Try.underlying31 Try.underlying5 Try.underlying9); (have HB4 := Lib.hid hb); clear hb) | (go_at_call 19; (refine (decode_any 2 1 fs59 _ _ (frags_59 HW.out.1) (by decide) small_59 (by decide)).mono ?_); rw [verdict_59, wordOf_59]; rintro e w3 (⟨_, v, rfl, hm0, hb⟩ | ⟨h, _⟩); rotate_left 1; exact absurd rfl h; (have hm : Mat w3 v [[5], [9]] := hm0); (obtain ⟨da, dcap, hv, _⟩ := hm.open); (have hv2 : v = .slice da 2 dcap := hv); subst hv2; (obtain ⟨db, doff, yo, he, hdb, hyo, hby0⟩ := hm.cell (i := 1) (by decide)); subst he; (have hby : Bytes w3 yo [9] := hby0); (obtain ⟨ya, ycap, hy, _⟩ := hby.open); (have hy2 : yo = .slice ya 1 ycap := hy); subst hy2; (have hb' : Below w2.heap.size w2 w3 := ((((Below.refl _ w2).alloc (Nat.le_refl _) _).alloc (by simp) _).trans (hb.mono (by simp; omega)))); (have hxo3 := (hb'.cell (p := ⟨ob, oo + 2, none⟩) hob).trans hxo); (have hxc3 := (hb'.cell (p := ⟨xb, xoff, none⟩) hxb).trans hxc); (have HY := Lib.hid (And.intro hby hb')); (have hs3 := hb'.size); have tok1 : True := trivial; clear hm hm0 hb hb' hby hby0 hv hy))
  have hxx : bits .xor .u8 ((GF.mul (coefI 0 0) 5 : Nat) : Int) ((GF.mul (coefI 0 1) 9 : Nat) : Int) = 185 := by decide +kernel
  obtain ⟨A, hA⟩ : ∃ A, A = coefI 0 0 := ⟨_, rfl⟩
  obtain ⟨A', hA'⟩ : ∃ A, A = coefI 0 1 := ⟨_, rfl⟩
  rw [← hA, ← hA'] at hxx
  have HA := Lib.hid hA
  have HA' := Lib.hid hA'
  have ha1 : A < 256 := by rw [hA]; exact coefI_lt _ _
  have ha2 : A' < 256 := by rw [hA']; exact coefI_lt _ _
  obtain ⟨M1, hM1⟩ : ∃ M, M = GF.mul A 5 := ⟨_, rfl⟩
  obtain ⟨M2, hM2⟩ : ∃ M, M = GF.mul A' 9 := ⟨_, rfl⟩
  rw [← hM1, ← hM2] at hxx
  have HM1 := Lib.hid hM1
  have HM2 := Lib.hid hM2
  have hs9 : strOf [9] = ⟨#[9]⟩ := rfl
  rw [hs9] at hcv
  clear hA hA' hM1 hM2 hs9
  have c1 : Hid (∀ w : World, Calls Try.prog 16 #[.int .i64 0, .int .i64 0] w fun e w' => e = .returned (.int .u8 (A : Int)) ∧ w = w') := Lib.hid fun w => by rw [HA.out]; exact coef_any 0 0 w
  have c2 : Hid (∀ w : World, Calls Try.prog 16 #[.int .i64 0, .int .i64 1] w fun e w' => e = .returned (.int .u8 (A' : Int)) ∧ w = w') := Lib.hid fun w => by rw [HA'.out]; exact coef_any 0 1 w
  have c3 : Hid (∀ w : World, Calls Try.prog 20 #[.int .u8 A, .int .u8 5] w fun e w' => e = .returned (.int .u8 (M1 : Int)) ∧ w = w') := Lib.hid fun w => by rw [HM1.out]; exact refMul_any A 5 w ha1 (by decide)
  have c4 : Hid (∀ w : World, Calls Try.prog 20 #[.int .u8 A', .int .u8 9] w fun e w' => e = .returned (.int .u8 (M2 : Int)) ∧ w = w') := Lib.hid fun w => by rw [HM2.out]; exact refMul_any A' 9 w ha2 (by decide)
  refine wp_region_still_lit (by kernel_rfl) (by kernel_rfl) ?_
  repeat still_step
  still_call (still (c1.out _))
  repeat still_step
  still_call (still (c3.out _))
  repeat still_step
  still_call (still (c2.out _))
  repeat still_step
  still_call (still (c4.out _))
  repeat still_step
  refine wpStill_nil ?_
  go_wp2_with fail
  go_ret
  exact ⟨rfl, ((HW.out.2.trans (HY.out.2.mono hs2)).trans (HB4.out.mono (by omega))).drew⟩
end Go.Proofs.Ytojfeldafbabeaa
