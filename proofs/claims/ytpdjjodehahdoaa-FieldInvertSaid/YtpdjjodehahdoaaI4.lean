/- The walks of the reference's Invert where it refuses, and of the law FieldInvert. -/
import Derived.Test.YtpdjjodehahdoaaI3
import Derived.Test.YtpdjjodehahdoaaS2
import Derived.Test.YtpdjjodehahdoaaC5
namespace Go.Proofs.Ytpdjjodehahdoaa
open Go.RowKit Go.Mem Go.Deep

theorem aug_app' {rows : List (List Nat)} {n k : Nat} {w : World} {v : Value} (hl : (rows.getD k []).length = n) (hb : Bytes w v (rows.getD k [])) (b : Nat) (hj : b < 2 * n) :
    (u8s (rows.getD k []) ++ dls k n).getD b undef = .int .u8 (((GF.aug n (ent rows) k b).v : Nat) : Int) := by
  rw [List.getD_eq_getElem?_getD]
  by_cases h1 : b < n
  · rw [List.getElem?_append_left (by rw [len_u8s, hl]; exact h1), GF.aug_left _ _ h1]
    have hlt := hb.lt b
    have hbl : b < (rows.getD k []).length := by rw [hl]; exact h1
    show _ = Value.int .u8 (((rows.getD k []).getD b 0 % 256 : Nat) : Int)
    rw [Nat.mod_eq_of_lt hlt]
    generalize rows.getD k [] = row at hbl
    simp [u8s, hbl]
  · rw [List.getElem?_append_right (by rw [len_u8s, hl]; omega), len_u8s, hl]
    have : b = n + (b - n) := by omega
    rw [this, GF.aug_right, Nat.add_sub_cancel_left]
    simp [dls, show b - n < n by omega]

set_option maxHeartbeats 4000000 in
set_option maxRecDepth 100000 in
theorem refInvert_bad (rows : List (List Nat)) (n p : Nat) (vr : Value) (w : World) (hr : Mat w vr rows) (hn : rows.length = n) (h1 : 1 ≤ n) (h32 : n ≤ 32) (hp : p < n) (hl : ∀ i, i < p → (rows.getD i []).length = n) (hbad : (rows.getD p []).length ≠ n) :
    Calls Try.prog 27 #[vr] w (Gave 1 (fun _ v => v = .slice none 0 0) w) := by
  obtain ⟨ra, rcap, rfl, hrl⟩ := hr.open
  rw [hn] at hr hrl ⊢
  obtain ⟨ob, oo, x0, rfl, hob, _, _⟩ := hr.cell (i := 0) (by omega)
  have hnn : ((n : Int) != (n : Int)) = false := by simp
  obtain ⟨i5, hi5, hz50, hz51, hz52⟩ := info_parts info5
  obtain ⟨i29, hi29, hz290, hz291, hz292⟩ := info_parts info29
  have HR := Lib.hid hr
  have HL := Lib.hid hl
  have HN := Lib.hid hn
  have HBD := Lib.hid hbad
  clear hr hl hn hbad
  go_enter Try.func27, Try.ntmps27
  go_wp2_with fail
  go_loopw [5, 6] (fun v i wr => ∃ (k : Nat) (G C : Nat → Nat), k ≤ p ∧ i = .int .i64 k ∧ Below w.heap.size w wr ∧ ∃ t, GridO wr w.heap.size 29 5 v k (2 * n) G C t) (fun _ i _ => p - (intOf i).toNat)
  case atStart => exact ⟨0, fun _ => 0, fun _ => 0, by omega, rfl, Below.refl _ _, fun _ _ => 0, GridO.nil _ _ _ _ _ _ _ _⟩
  case round =>
    rename World => wr
    obtain ⟨k, G0, C0, hk, rfl, hbel, t0, hgrid⟩ := hrel
    have HB := Lib.hid hbel
    have HG := Lib.hid hgrid
    clear hbel hgrid
    by_cases hkp : k < p
    · have hkn : k < n := by omega
      obtain ⟨ob', oo', xk, he, hob', hxk, hbk⟩ := (HR.out).cell (i := k) (by have := HN.out; omega)
      cases he
      obtain ⟨ka, kcap, rfl, hkl⟩ := hbk.open
      rw [HL.out k hkp] at hxk hkl hbk
      have hxk' := (HB.out.cell (p := ⟨ob, oo + k, none⟩) hob).trans hxk
      obtain ⟨kb, ko, rfl, hkb, _⟩ := hbk.cell (i := 0) (by rw [HL.out k hkp]; omega)
      have HBK := Lib.hid (hbk.below HB.out (Nat.le_refl _))
      have hbsz := HB.out.size
      clear hxk hbk
      go_wp2_with (at_builtin; refine wpList_append_own _ rfl (.const (.slice none 0 0)) (.tmp 42) 29 rfl wr.heap.size 5 i5 (.int .u8 0) 1 1 Try.underlying29 hi5 hz50 hz51 hz52 rfl (by decide) (.slice none 0 0) 0 [] rfl (World.ownsRow_nil _ _ _ _) ⟨kb, ko, none⟩ n kcap (u8s (rows.getD k [])) rfl (by rw [len_u8s, HL.out k hkp]; omega) (by intro j u hu; exact bytes_news HBK.out j u hu) (by intro u hu; exact u8s_one u hu) (by unfold maxLen; omega) (by omega) (Nat.le_refl _) ?_; intro v' w5 hown5 hgrow5 hnil5; have HO5 := Lib.hid (And.intro hown5 hgrow5); clear hown5 hgrow5 hnil5)
      have hg5 := HG.out.of_blocks (w' := w5) (fun b hb => HO5.out.2.block b hb (by simp [Value.ownBlock]))
      have hB5 := HB.out.grown HO5.out.2 hbsz (by simp [Value.ownBlock])
      have hB5' := (Below.refl wr.heap.size wr).grown HO5.out.2 (Nat.le_refl _) (by simp [Value.ownBlock])
      have ho5 := HO5.out.1
      rw [Nat.zero_add, List.nil_append] at ho5
      have HG5 := Lib.hid hg5
      have HB5 := Lib.hid hB5
      have HB5' := Lib.hid hB5'
      have HW5 := Lib.hid ho5
      have hs5 := hB5'.size
      clear hg5 hB5 hB5' ho5
      go_loopw [7, 8] (fun v q wx => ∃ j : Nat, j ≤ n ∧ q = .int .i64 j ∧ Below wr.heap.size wr wx ∧ wx.ownsRow wr.heap.size 5 1 v (n + j) (u8s (rows.getD k []) ++ dls k j)) (fun _ q _ => n - (intOf q).toNat)
      case atStart => exact ⟨0, by omega, rfl, HB5'.out, by simpa [dls] using HW5.out⟩
      case round =>
        rename World => wx
        obtain ⟨j, hj, rfl, hb6, ho6⟩ := hrel
        have HB6 := Lib.hid hb6
        have HW6 := Lib.hid ho6
        have hs6 := hb6.size
        clear hb6 ho6
        by_cases hjn : j < n
        · by_cases hkj : k = j
          · have ht : ((k : Int) == (j : Int)) = true := by rw [hkj]; simp
            have HKJ := Lib.hid hkj
            clear hkj
            go_wp2_with (at_builtin; refine wpList_append_own _ rfl (.tmp 52) (.tmp 53) 29 rfl wr.heap.size 5 i5 (.int .u8 0) 1 1 Try.underlying29 hi5 hz50 hz51 hz52 rfl (by decide) _ (n + j) (u8s (rows.getD k []) ++ dls k j) rfl (HW6.out.alloc _) ⟨wx.heap.size, 0, none⟩ 1 1 [.int .u8 1] rfl rfl (by intro j u hj; match j, hj with | 0, hj => (simp at hj; subst hj; simp [Addr.add])) (by intro u hu; simp at hu; subst hu; rfl) (by unfold maxLen; omega) (by omega) (by simp; omega) ?_; intro v' w7 hown7 hgrow7 hnil7; have HO7 := Lib.hid (And.intro hown7 hgrow7); clear hown7 hgrow7 hnil7)
            go_roundw
            case rel =>
              refine ⟨j + 1, by omega, by go_num, (HB6.out.alloc hs6 _).grown HO7.out.2 (by simp; omega) (fun b hb => (HW6.out.lt b hb).1), ?_⟩
              have := HO7.out.1
              rw [List.append_assoc] at this
              rw [dls_one HKJ.out]
              exact this
            case measure => simp [intOf]; omega
          · have ht : ((k : Int) == (j : Int)) = false := by rw [beq_eq_false_iff_ne]; omega
            go_wp2_with (at_builtin; refine wpList_append_own _ rfl (.tmp 55) (.tmp 56) 29 rfl wr.heap.size 5 i5 (.int .u8 0) 1 1 Try.underlying29 hi5 hz50 hz51 hz52 rfl (by decide) _ (n + j) (u8s (rows.getD k []) ++ dls k j) rfl (HW6.out.alloc _) ⟨wx.heap.size, 0, none⟩ 1 1 [.int .u8 0] rfl rfl (by intro j u hj; match j, hj with | 0, hj => (simp at hj; subst hj; simp [Addr.add])) (by intro u hu; simp at hu; subst hu; rfl) (by unfold maxLen; omega) (by omega) (by simp; omega) ?_; intro v' w7 hown7 hgrow7 hnil7; have HO7 := Lib.hid (And.intro hown7 hgrow7); clear hown7 hgrow7 hnil7)
            go_roundw
            case rel =>
              refine ⟨j + 1, by omega, by go_num, (HB6.out.alloc hs6 _).grown HO7.out.2 (by simp; omega) (fun b hb => (HW6.out.lt b hb).1), ?_⟩
              have := HO7.out.1
              rw [List.append_assoc] at this
              rw [dls_zero hkj]
              exact this
            case measure => simp [intOf]; omega
        · have hje : j = n := by omega
          obtain ⟨g, cap, rfl, hbg, hc1, hc2, ho8⟩ := ownT_of_ownsRow HW6.out (by omega)
          have h2n : n + j = 2 * n := by omega
          have HO8 := Lib.hid ho8
          have HJE := Lib.hid hje
          have H2N := Lib.hid h2n
          have hg6 := HG.out.below HB6.out
          have HG6 := Lib.hid hg6
          rw [h2n]
          clear ho8 hje h2n hg6
          go_wp2_with (at_builtin; refine wpList_append_own _ rfl (.tmp 58) (.tmp 60) 30 rfl w.heap.size 29 i29 (.slice none 0 0) 1 24 Try.underlying30 hi29 hz290 hz291 hz292 rfl (by decide) u5 k (slices G0 C0 (2 * n) k) rfl (HG6.out.outer.alloc _) ⟨wx.heap.size, 0, none⟩ 1 1 [.slice (some ⟨g, 0, none⟩) (2 * n) cap] rfl rfl (by intro j u hj; match j, hj with | 0, hj => (simp at hj; subst hj; simp [Addr.add])) (by intro u hu; simp at hu; subst hu; rfl) (by unfold maxLen; omega) (by omega) (by simp; omega) ?_; intro v' w9 hown9 hgrow9 hnil9; have HO9 := Lib.hid (And.intro hown9 hgrow9); clear hown9 hgrow9 hnil9)
          go_roundw
          case rel =>
            obtain ⟨hown9, hgrow9⟩ := HO9.out
            have hg3 := HG6.out.of_blocks (w' := wx.alloc (.cells #[.slice (some ⟨g, 0, none⟩) (2 * n) cap] 29)) (fun b hb => Below.heap_alloc _ _ _ hb)
            have ho8 := HO8.out
            rw [H2N.out] at ho8
            have ho3 := (ho8.congr (g := fun b => .int .u8 (((GF.aug n (ent rows) k b).v : Nat) : Int)) (fun b hb => by
              rw [HJE.out]; exact aug_app' (HL.out k hkp) HBK.out b hb)).alloc (.cells #[.slice (some ⟨g, 0, none⟩) (2 * n) cap] 29)
            have hP := hg3.push (by decide) ho3 (by omega) (fun a ha => by have := HG.out.lt ha; omega) ⟨by have := H2N.out; omega, hc2⟩ hown9 hgrow9
            exact ⟨k + 1, _, _, by omega, by go_num, ((HB.out.trans (HB6.out.mono hbsz)).alloc (by omega) _).grown hgrow9 (by simp; omega) (fun b hb => (HG6.out.outer.lt b hb).1), _, hP⟩
          case measure => simp [intOf]; omega
    · have hkn : k < n := by omega
      have hke : k = p := by omega
      obtain ⟨ob', oo', xk, he, hob', hxk, hbk⟩ := (HR.out).cell (i := k) (by have := HN.out; omega)
      cases he
      obtain ⟨ka, kcap, rfl, hkl⟩ := hbk.open
      obtain ⟨L, hL⟩ : ∃ L, L = (rows.getD k []).length := ⟨_, rfl⟩
      rw [← hL] at hxk hkl
      have hxk' := (HB.out.cell (p := ⟨ob, oo + k, none⟩) hob).trans hxk
      have hne : ((L : Int) != (n : Int)) = true := by rw [bne_iff_ne]; have := HBD.out; rw [← hke, ← hL] at this; omega
      clear hxk hbk hL hke
      go_wp2_with fail
      go_ret2
      exact ⟨_, rfl, rfl, HB.out⟩

set_option maxHeartbeats 1000000 in
set_option maxRecDepth 100000 in
theorem refInvert_out (rows : List (List Nat)) (n : Nat) (vr : Value) (w : World) (hr : Mat w vr rows) (hn : rows.length = n) (h : n = 0 ∨ 32 < n) :
    Calls Try.prog 27 #[vr] w (Gave 1 (fun _ v => v = .slice none 0 0) w) := by
  obtain ⟨ra, rcap, rfl, hrl⟩ := hr.open
  rw [hn] at hrl ⊢
  clear hr hn
  by_cases h0 : n = 0
  · have hn0 : (n : Int) < 1 := by omega
    have H0 := Lib.hid h0
    clear h0 h
    go_enter Try.func27, Try.ntmps27
    go_wp2_with fail
    go_ret2
    exact ⟨_, rfl, rfl, Below.refl _ _⟩
  · have hn0 : ¬ (n : Int) < 1 := by omega
    have h32 : 32 < n := by omega
    have H0 := Lib.hid h0
    clear h0 h
    go_enter Try.func27, Try.ntmps27
    go_wp2_with fail
    go_ret2
    exact ⟨_, rfl, rfl, Below.refl _ _⟩

theorem refInvert_fail (rows : List (List Nat)) (vr : Value) (w : World) (hr : Mat w vr rows) (h : ¬ Sq rows) :
    Calls Try.prog 27 #[vr] w (Gave 1 (fun _ v => v = .slice none 0 0) w) := by
  rcases not_sq h with h | ⟨h1, h2, p, hp, hl, hbad⟩
  · exact refInvert_out rows _ vr w hr rfl h
  · exact refInvert_bad rows _ p vr w hr rfl h1 h2 hp hl hbad

set_option maxHeartbeats 1000000 in
theorem fieldInvert_any (rows : List (List Nat)) (vr : Value) (w : World) (hr : Mat w vr rows) :
    Calls Try.prog 7 #[vr] w (Yes w) := by
  have HR := Lib.hid hr
  clear hr
  by_cases hlong : longB rows = true
  · go_enter Try.func7, Try.ntmps7
    go_wp2_with (first | (go_at_call 15; (with_reducible refine (long_any rows _ _ HR.out).mono ?_); rintro e w' ⟨rfl, rfl⟩) | (go_at_call 12; (with_reducible refine (awake_any _).mono ?_); rintro e w' ⟨rfl, rfl⟩))
    go_ret
    exact ⟨rfl, Below.refl _ _⟩
  · have hl : longB rows = false := by simpa using hlong
    clear hlong
    by_cases hs : Sq rows
    · have HS := Lib.hid hs
      clear hs
      go_enter Try.func7, Try.ntmps7
      go_wp2_with (go_at_call 15; (with_reducible refine (long_any rows _ _ HR.out).mono ?_); rintro e w' ⟨rfl, rfl⟩)
      refine (invert_sq rows _ vr w HR.out rfl HS.out.1 HS.out.2.1 HS.out.2.2).mono ?_
      rintro e w1 (⟨u, vx, hu, rfl, hmx, hb1⟩ | ⟨hu, rfl, hb1⟩)
      · have HB1 := Lib.hid hb1
        have HMX := Lib.hid hmx
        have HU := Lib.hid hu
        clear hb1 hmx hu
        go_wp2_with fail
        refine (refInvert_sq rows _ vr w1 (HR.out.below HB1.out (Nat.le_refl _)) rfl HS.out.1 HS.out.2.1 HS.out.2.2).mono ?_
        rintro e w2 (⟨u2, vy, hu2, rfl, hmy, hb2⟩ | ⟨hu2, rfl, hb2⟩)
        · have hue : u2 = u := Option.some.inj (hu2.symm.trans HU.out)
          rw [hue] at hmy
          have HB2 := Lib.hid hb2
          have HMY := Lib.hid hmy
          clear hb2 hmy hu2 hue
          go_wp2_with fail
          refine (sameRows_any _ _ _ w2 (HMX.out.below HB2.out (Nat.le_refl _)) HMY.out).mono ?_
          rintro e w3 ⟨rfl, hb3⟩
          have HB3 := Lib.hid hb3
          clear hb3
          go_wp2_with (go_at_call 12; (with_reducible refine (awake_any _).mono ?_); rintro e w' ⟨rfl, rfl⟩)
          go_ret
          exact ⟨rfl, ext HB1.out (ext HB2.out HB3.out)⟩
        · exact absurd (hu2.symm.trans HU.out) (by simp)
      · have HB1 := Lib.hid hb1
        have HU := Lib.hid hu
        clear hb1 hu
        go_wp2_with fail
        refine (refInvert_sq rows _ vr w1 (HR.out.below HB1.out (Nat.le_refl _)) rfl HS.out.1 HS.out.2.1 HS.out.2.2).mono ?_
        rintro e w2 (⟨u2, vy, hu2, rfl, hmy, hb2⟩ | ⟨hu2, rfl, hb2⟩)
        · exact absurd (HU.out.symm.trans hu2) (by simp)
        · have HB2 := Lib.hid hb2
          clear hb2 hu2
          go_wp2_with fail
          refine (sameRows_any [] _ _ w2 (Mat.nil _) (Mat.nil _)).mono ?_
          rintro e w3 ⟨rfl, hb3⟩
          have HB3 := Lib.hid hb3
          clear hb3
          go_wp2_with (go_at_call 12; (with_reducible refine (awake_any _).mono ?_); rintro e w' ⟨rfl, rfl⟩)
          go_ret
          exact ⟨rfl, ext HB1.out (ext HB2.out HB3.out)⟩
    · have HS := Lib.hid hs
      clear hs
      go_enter Try.func7, Try.ntmps7
      go_wp2_with (go_at_call 15; (with_reducible refine (long_any rows _ _ HR.out).mono ?_); rintro e w' ⟨rfl, rfl⟩)
      refine (invert_fail rows vr w HR.out HS.out).mono ?_
      rintro e w1 ⟨v, rfl, rfl, hb1⟩
      have HB1 := Lib.hid hb1
      clear hb1
      go_wp2_with fail
      refine (refInvert_fail rows vr w1 (HR.out.below HB1.out (Nat.le_refl _)) HS.out).mono ?_
      rintro e w2 ⟨v, rfl, rfl, hb2⟩
      have HB2 := Lib.hid hb2
      clear hb2
      go_wp2_with fail
      refine (sameRows_any [] _ _ w2 (Mat.nil _) (Mat.nil _)).mono ?_
      rintro e w3 ⟨rfl, hb3⟩
      have HB3 := Lib.hid hb3
      clear hb3
      go_wp2_with (go_at_call 12; (with_reducible refine (awake_any _).mono ?_); rintro e w' ⟨rfl, rfl⟩)
      go_ret
      exact ⟨rfl, ext HB1.out (ext HB2.out HB3.out)⟩

end Go.Proofs.Ytpdjjodehahdoaa
