/- The walk of the reference's Invert. -/
import Derived.Test.YtojfeldafbabeaaI2
import Derived.Test.YtojfeldafbabeaaOwo
set_option linter.unusedVariables false
set_option linter.unusedSimpArgs false
set_option linter.unnecessarySimpa false
namespace Go.Proofs.Ytojfeldafbabeaa
open Go.RowKit Go.Mem Go.Deep

def dls (k j : Nat) : List Value := (List.range j).map fun b => .int .u8 (((GF.dl k b).v : Nat) : Int)
theorem dls_one {k j : Nat} (h : k = j) : dls k (j + 1) = dls k j ++ [.int .u8 1] := by
  subst h; unfold dls; rw [List.range_succ, List.map_append]; simp [GF.dl_self, GF.F.v_one]
theorem dls_zero {k j : Nat} (h : ¬ k = j) : dls k (j + 1) = dls k j ++ [.int .u8 0] := by
  unfold dls; rw [List.range_succ, List.map_append]; simp [GF.dl_ne h, GF.F.v_zero]
theorem bytes_news {w : World} {b off n cap : Nat} {l : List Nat} (h : Bytes w (.slice (some ⟨b, off, none⟩) n cap) l) (j : Nat) (u : Value) (hu : (u8s l)[j]? = some u) : w.cell? ((⟨b, off, none⟩ : Addr).add j) = some u := by
  have hj : j < l.length := by
    rcases Nat.lt_or_ge j l.length with h | h
    · exact h
    · rw [List.getElem?_eq_none (by rw [len_u8s]; exact h)] at hu; cases hu
  obtain ⟨b', off', e, _, hc⟩ := h.cell hj
  cases e
  have hadd : (⟨b, off, none⟩ : Addr).add j = ⟨b, off + j, none⟩ := by unfold Addr.add; split <;> simp_all
  rw [hadd, hc, ← hu]
  simp [u8s, hj]
theorem u8s_one {l : List Nat} (u : Value) (hu : u ∈ u8s l) : u.oneCell' = true := by
  obtain ⟨x, _, rfl⟩ := List.mem_map.1 hu
  rfl
theorem aug_app {rows : List (List Nat)} {n k : Nat} {w : World} {v : Value} (hl : ∀ i, i < n → (rows.getD i []).length = n) (hb : Bytes w v (rows.getD k [])) (hk : k < n) (b : Nat) (hj : b < 2 * n) :
    (u8s (rows.getD k []) ++ dls k n).getD b undef = .int .u8 (((GF.aug n (ent rows) k b).v : Nat) : Int) := by
  rw [List.getD_eq_getElem?_getD]
  by_cases h1 : b < n
  · rw [List.getElem?_append_left (by rw [len_u8s, hl k hk]; exact h1), GF.aug_left _ _ h1]
    have hlt := hb.lt b
    have hbl : b < (rows.getD k []).length := by rw [hl k hk]; exact h1
    show _ = Value.int .u8 (((rows.getD k []).getD b 0 % 256 : Nat) : Int)
    rw [Nat.mod_eq_of_lt hlt]
    generalize rows.getD k [] = row at hbl
    simp [u8s, hbl]
  · rw [List.getElem?_append_right (by rw [len_u8s, hl k hk]; omega), len_u8s, hl k hk]
    have : b = n + (b - n) := by omega
    rw [this, GF.aug_right, Nat.add_sub_cancel_left]
    simp [dls, show b - n < n by omega]

set_option maxHeartbeats 8000000 in
set_option maxRecDepth 100000 in
theorem refInvert_sq (rows : List (List Nat)) (n : Nat) (vr : Value) (w : World) (hr : Mat w vr rows) (hn : rows.length = n) (h1 : 1 ≤ n) (h32 : n ≤ 32) (hl : ∀ i, i < n → (rows.getD i []).length = n) :
    Calls Try.prog 40 #[vr] w (InvPost n rows w) := by
  obtain ⟨ra, rcap, rfl, hrl⟩ := hr.open
  rw [hn] at hr hrl ⊢
  obtain ⟨ob, oo, x0, rfl, hob, _, _⟩ := hr.cell (i := 0) (by omega)
  have hnn : ((n : Int) != (n : Int)) = false := by simp
  obtain ⟨i5, hi5, hz50, hz51, hz52⟩ := info_parts info5
  obtain ⟨i29, hi29, hz290, hz291, hz292⟩ := info_parts info29
  have HR := Lib.hid hr
  have HL := Lib.hid hl
  have HN := Lib.hid hn
  clear hr hl hn
  go_enter Try.func40, Try.ntmps40
  go_wp2_with fail
  go_loopw [5, 6] (fun v i wr => ∃ (k : Nat) (G C : Nat → Nat), k ≤ n ∧ i = .int .i64 k ∧ Below w.heap.size w wr ∧ GridO wr w.heap.size 31 5 v k (2 * n) G C (GF.aug n (ent rows))) (fun _ i _ => n - (intOf i).toNat)
  case atStart => exact ⟨0, fun _ => 0, fun _ => 0, by omega, rfl, Below.refl _ _, GridO.nil _ _ _ _ _ _ _ _⟩
  case round =>
    rename World => wr
    obtain ⟨k, G0, C0, hk, rfl, hbel, hgrid⟩ := hrel
    have HB := Lib.hid hbel
    have HG := Lib.hid hgrid
    clear hbel hgrid
    by_cases hkn : k < n
    · obtain ⟨ob', oo', xk, he, hob', hxk, hbk⟩ := (HR.out).cell (i := k) (by have := HN.out; omega)
      cases he
      obtain ⟨ka, kcap, rfl, hkl⟩ := hbk.open
      rw [HL.out k hkn] at hxk hkl hbk
      have hxk' := (HB.out.cell (p := ⟨ob, oo + k, none⟩) hob).trans hxk
      obtain ⟨kb, ko, rfl, hkb, _⟩ := hbk.cell (i := 0) (by rw [HL.out k hkn]; omega)
      have HBK := Lib.hid (hbk.below HB.out (Nat.le_refl _))
      have hbsz := HB.out.size
      clear hxk hbk
      go_wp2_with (at_builtin; refine wpList_append_own _ rfl (.const (.slice none 0 0)) (.tmp 42) 31 rfl wr.heap.size 5 i5 (.int .u8 0) 1 1 Try.underlying31 hi5 hz50 hz51 hz52 rfl (by decide) (.slice none 0 0) 0 [] rfl (World.ownsRow_nil _ _ _ _) ⟨kb, ko, none⟩ n kcap (u8s (rows.getD k [])) rfl (by rw [len_u8s, HL.out k hkn]; omega) (by intro j u hu; exact bytes_news HBK.out j u hu) (by intro u hu; exact u8s_one u hu) (by unfold maxLen; omega) (by omega) (Nat.le_refl _) ?_; intro v' w5 hown5 hgrow5 hnil5; have HO5 := Lib.hid (And.intro hown5 hgrow5); clear hown5 hgrow5 hnil5)
      have hg5 := HG.out.of_blocks (w' := w5) (fun b hb => HO5.out.2.block b hb (by simp [Value.ownBlock]))
      have hB5 := HB.out.grown HO5.out.2 hbsz (by simp [Value.ownBlock])
      have hB5' := (Below.refl wr.heap.size wr).grown HO5.out.2 (Nat.le_refl _) (by simp [Value.ownBlock])
      have ho5 := HO5.out.1
      rw [Nat.zero_add, List.nil_append] at ho5
      have HG5 := Lib.hid hg5
      have HB5 := Lib.hid hB5
      have HB5' := Lib.hid hB5'
      have HW5 := Lib.hid ho5
      have hs5 := hB5'.size
      clear hg5 hB5 hB5' ho5
      go_loopw [7, 8] (fun v q wx => ∃ j : Nat, j ≤ n ∧ q = .int .i64 j ∧ Below wr.heap.size wr wx ∧ wx.ownsRow wr.heap.size 5 1 v (n + j) (u8s (rows.getD k []) ++ dls k j)) (fun _ q _ => n - (intOf q).toNat)
      case atStart => exact ⟨0, by omega, rfl, HB5'.out, by simpa [dls] using HW5.out⟩
      case round =>
        rename World => wx
        obtain ⟨j, hj, rfl, hb6, ho6⟩ := hrel
        have HB6 := Lib.hid hb6
        have HW6 := Lib.hid ho6
        have hs6 := hb6.size
        clear hb6 ho6
        by_cases hjn : j < n
        · by_cases hkj : k = j
          · have ht : ((k : Int) == (j : Int)) = true := by rw [hkj]; simp
            have HKJ := Lib.hid hkj
            clear hkj
            go_wp2_with (at_builtin; refine wpList_append_own _ rfl (.tmp 52) (.tmp 53) 31 rfl wr.heap.size 5 i5 (.int .u8 0) 1 1 Try.underlying31 hi5 hz50 hz51 hz52 rfl (by decide) _ (n + j) (u8s (rows.getD k []) ++ dls k j) rfl (HW6.out.alloc _) ⟨wx.heap.size, 0, none⟩ 1 1 [.int .u8 1] rfl rfl (by intro j u hj; match j, hj with | 0, hj => (simp at hj; subst hj; simp [Addr.add])) (by intro u hu; simp at hu; subst hu; rfl) (by unfold maxLen; omega) (by omega) (by simp; omega) ?_; intro v' w7 hown7 hgrow7 hnil7; have HO7 := Lib.hid (And.intro hown7 hgrow7); clear hown7 hgrow7 hnil7)
            go_roundw
            case rel =>
              refine ⟨j + 1, by omega, by go_num, (HB6.out.alloc hs6 _).grown HO7.out.2 (by simp; omega) (fun b hb => (HW6.out.lt b hb).1), ?_⟩
              have := HO7.out.1
              rw [List.append_assoc] at this
              rw [dls_one HKJ.out]
              exact this
            case measure => simp [intOf]; omega
          · have ht : ((k : Int) == (j : Int)) = false := by rw [beq_eq_false_iff_ne]; omega
            go_wp2_with (at_builtin; refine wpList_append_own _ rfl (.tmp 55) (.tmp 56) 31 rfl wr.heap.size 5 i5 (.int .u8 0) 1 1 Try.underlying31 hi5 hz50 hz51 hz52 rfl (by decide) _ (n + j) (u8s (rows.getD k []) ++ dls k j) rfl (HW6.out.alloc _) ⟨wx.heap.size, 0, none⟩ 1 1 [.int .u8 0] rfl rfl (by intro j u hj; match j, hj with | 0, hj => (simp at hj; subst hj; simp [Addr.add])) (by intro u hu; simp at hu; subst hu; rfl) (by unfold maxLen; omega) (by omega) (by simp; omega) ?_; intro v' w7 hown7 hgrow7 hnil7; have HO7 := Lib.hid (And.intro hown7 hgrow7); clear hown7 hgrow7 hnil7)
            go_roundw
            case rel =>
              refine ⟨j + 1, by omega, by go_num, (HB6.out.alloc hs6 _).grown HO7.out.2 (by simp; omega) (fun b hb => (HW6.out.lt b hb).1), ?_⟩
              have := HO7.out.1
              rw [List.append_assoc] at this
              rw [dls_zero hkj]
              exact this
            case measure => simp [intOf]; omega
        · have hje : j = n := by omega
          obtain ⟨g, cap, rfl, hbg, hc1, hc2, ho8⟩ := ownT_of_ownsRow HW6.out (by omega)
          have h2n : n + j = 2 * n := by omega
          have HO8 := Lib.hid ho8
          have HJE := Lib.hid hje
          have H2N := Lib.hid h2n
          have hg6 := HG.out.below HB6.out
          have HG6 := Lib.hid hg6
          rw [h2n]
          clear ho8 hje h2n hg6
          go_wp2_with (at_builtin; refine wpList_append_own _ rfl (.tmp 58) (.tmp 60) 22 rfl w.heap.size 31 i29 (.slice none 0 0) 1 24 Try.underlying22 hi29 hz290 hz291 hz292 rfl (by decide) u5 k (slices G0 C0 (2 * n) k) rfl (HG6.out.outer.alloc _) ⟨wx.heap.size, 0, none⟩ 1 1 [.slice (some ⟨g, 0, none⟩) (2 * n) cap] rfl rfl (by intro j u hj; match j, hj with | 0, hj => (simp at hj; subst hj; simp [Addr.add])) (by intro u hu; simp at hu; subst hu; rfl) (by unfold maxLen; omega) (by omega) (by simp; omega) ?_; intro v' w9 hown9 hgrow9 hnil9; have HO9 := Lib.hid (And.intro hown9 hgrow9); clear hown9 hgrow9 hnil9)
          go_roundw
          case rel =>
            obtain ⟨hown9, hgrow9⟩ := HO9.out
            have hg3 := HG6.out.of_blocks (w' := wx.alloc (.cells #[.slice (some ⟨g, 0, none⟩) (2 * n) cap] 31)) (fun b hb => Below.heap_alloc _ _ _ hb)
            have ho8 := HO8.out
            rw [H2N.out] at ho8
            have ho3 := (ho8.congr (g := fun b => .int .u8 (((GF.aug n (ent rows) k b).v : Nat) : Int)) (fun b hb => by
              rw [HJE.out]; exact aug_app HL.out HBK.out hkn b hb)).alloc (.cells #[.slice (some ⟨g, 0, none⟩) (2 * n) cap] 31)
            have hP := hg3.push (by decide) ho3 (by omega) (fun a ha => by have := HG.out.lt ha; omega) ⟨by have := H2N.out; omega, hc2⟩ hown9 hgrow9
            exact ⟨k + 1, _, _, by omega, by go_num, ((HB.out.trans (HB6.out.mono hbsz)).alloc (by omega) _).grown hgrow9 (by simp; omega) (fun b hb => (HG6.out.outer.lt b hb).1), hP.congr (fun a b _ _ => by
              by_cases e : a = k
              · subst e; simp
              · simp [e])⟩
          case measure => simp [intOf]; omega
    · have hke : k = n := by omega
      have hg0 := HG.out
      rw [hke] at hg0
      obtain ⟨R, rc, rfl, hrc1, hrc2, hgr0⟩ := hg0.grid (by decide) (by omega)
      have HG0 := Lib.hid hgr0
      clear hg0 hgr0
      have HKE := Lib.hid hke
      clear hke
      obtain ⟨A, hA⟩ : ∃ A, A = GF.aug n (ent rows) := ⟨_, rfl⟩
      have HA := Lib.hid hA
      clear hA
      go_wp2_with fail
      go_loopw [9] (fun i wq => ∃ (k : Nat) (t : Nat → Nat → GF.F) (G C : Nat → Nat), k ≤ n ∧ i = .int .i64 k ∧ Below w.heap.size w wq ∧ Hid (GF.gjTo n A k = some t) ∧ Grid wq w.heap.size R n (2 * n) G C t) (fun i _ => n - (intOf i).toNat)
      case atStart => exact ⟨0, A, _, _, by omega, rfl, HB.out, rfl, by rw [HA.out]; exact HG0.out⟩
      case round =>
        rename World => wq
        obtain ⟨k2, t, G, C, hk2, rfl, hbel, hgj, hgrid⟩ := hrel
        have HB3 := Lib.hid hbel
        have HG3 := Lib.hid hgrid
        clear hbel hgrid
        by_cases hkn2 : k2 < n
        · go_wp2_with fail
          go_loop [10] (fun i => ∃ p : Nat, k2 ≤ p ∧ p ≤ n ∧ i = .int .i64 p ∧ Hid (∀ a, k2 ≤ a → a < p → t a k2 = 0)) (fun i => n - (intOf i).toNat)
          case atStart => exact ⟨k2, by omega, by omega, rfl, fun a h1 h2 => by omega⟩
          case round =>
            obtain ⟨p, hkp, hpn, rfl, hz⟩ := hrel
            by_cases hp : p < n
            · have hoc := HG3.out.ocell hp
              have hic := HG3.out.icell hp (show k2 < 2 * n by omega)
              obtain ⟨x, hx⟩ : ∃ x, x = t p k2 := ⟨_, rfl⟩
              rw [← hx] at hic
              have HX := Lib.hid hx
              clear hx
              by_cases h0 : x.v = 0
              · have ht : (((x.v : Nat) : Int) == 0) = true := by rw [h0]; rfl
                have H0 := Lib.hid h0
                clear h0
                go_wp2_with fail
                go_round
                case rel => exact ⟨p + 1, by omega, by omega, by go_num, fun a h1 h2 => by
                  by_cases e : a = p
                  · subst e; rw [← HX.out]; exact GF.F.ext H0.out
                  · exact hz.out a h1 (by omega)⟩
                case measure => simp [intOf]; omega
              · have ht : (((x.v : Nat) : Int) == 0) = false := by rw [beq_eq_false_iff_ne]; omega
                have htn : ((p : Int) == (n : Int)) = false := by rw [beq_eq_false_iff_ne]; omega
                have H0 := Lib.hid h0
                clear h0
                have hock := HG3.out.ocell hkn2
                have hfr1 := HG3.out.outer.frozen p
                have hfr2 := HG3.out.outer.frozen k2
                go_upto_region 26 with (fail)
                go_cut [10] (fun s9 wx => s9 = .int .i64 p ∧ Below w.heap.size w wx ∧ Grid wx w.heap.size R n (2 * n) (fun i => G (GF.sw p k2 i)) (fun i => C (GF.sw p k2 i)) (fun i => t (GF.sw p k2 i)))
                case first =>
                  have HSW := Lib.hid (HG3.out.drew.swap hp hkn2)
                  by_cases hpk : p = k2
                  · subst hpk
                    go_region
                    go_wp2_with fail
                    go_meet
                    exact ⟨rfl, (HB3.out.drew.setCell HG3.out.baseR _).setCell HG3.out.baseR _, HSW.out⟩
                  · go_region
                    go_wp2_with fail
                    go_meet
                    exact ⟨rfl, (HB3.out.drew.setCell HG3.out.baseR _).setCell HG3.out.baseR _, HSW.out⟩
                case rest =>
                  obtain ⟨rfl, hbel4, hgrid4⟩ := hcut
                  have HB4 := Lib.hid hbel4
                  obtain ⟨u, hu⟩ : ∃ u, u = fun i => t (GF.sw p k2 i) := ⟨_, rfl⟩
                  obtain ⟨G1, hG1⟩ : ∃ u, u = fun i => G (GF.sw p k2 i) := ⟨_, rfl⟩
                  obtain ⟨C1, hC1⟩ : ∃ u, u = fun i => C (GF.sw p k2 i) := ⟨_, rfl⟩
                  rw [← hu, ← hG1, ← hC1] at hgrid4
                  have HG4 := Lib.hid hgrid4
                  have HU := Lib.hid hu
                  have hukk : (u k2 k2).v ≠ 0 := by
                    rw [HU.out]; show (t (GF.sw p k2 k2) k2).v ≠ 0
                    rw [show GF.sw p k2 k2 = p by simp [GF.sw], ← HX.out]; exact H0.out
                  clear hu hG1 hC1 hbel4 hgrid4 hoc hic hock hfr1 hfr2
                  have HUK := Lib.hid hukk
                  clear hukk
                  have hc4 := HG4.out.ocell hkn2
                  have hi4 := HG4.out.icell hkn2 (show k2 < 2 * n by omega)
                  obtain ⟨y, hy⟩ : ∃ y, y = u k2 k2 := ⟨_, rfl⟩
                  rw [← hy] at hi4
                  have HY := Lib.hid hy
                  clear hy
                  have ylt := y.lt
                  have y0 : y.v ≠ 0 := by rw [HY.out]; exact HUK.out
                  have Y0 := Lib.hid y0
                  clear y0
                  go_wp2_with (go_at_call 37; (with_reducible refine (refInv_nz y.v _ ylt Y0.out).mono ?_); rintro e w' ⟨rfl, rfl⟩)
                  rename World => w4
                  go_loopw [13] (fun q wy => ∃ j : Nat, j ≤ 2 * n ∧ q = .int .i64 j ∧ Below w.heap.size w wy ∧ Grid wy w.heap.size R n (2 * n) G1 C1 (fun a b => if a = k2 ∧ b < j then y.inv * u k2 b else u a b)) (fun q _ => 2 * n - (intOf q).toNat)
                  case atStart => exact ⟨0, by omega, rfl, HB4.out, HG4.out.congr (fun a b _ _ => by rw [if_neg (by omega)])⟩
                  case round =>
                    rename World => wy
                    obtain ⟨j, hj, rfl, hb5, hg5⟩ := hrel
                    have HB5 := Lib.hid hb5
                    have HG5 := Lib.hid hg5
                    clear hb5 hg5 hc4 hi4
                    by_cases hj2 : j < 2 * n
                    · have hc5 := HG5.out.ocell hkn2
                      have hi5 := HG5.out.icell hkn2 hj2
                      have hf5 := (HG5.out.inner k2 hkn2).frozen j
                      rw [if_neg (by omega)] at hi5
                      obtain ⟨z, hz5⟩ : ∃ z, z = u k2 j := ⟨_, rfl⟩
                      rw [← hz5] at hi5
                      have HZ5 := Lib.hid hz5
                      have zlt := z.lt
                      clear hz5
                      go_wp2_with fail
                      refine wp_region_still_tail 15 (by kernel_rfl) (by kernel_rfl) ?_
                      simp only [List.take_succ_cons, List.take_zero, List.drop_succ_cons, List.drop_zero]
                      repeat still_step
                      still_call (still (refMul_any z.v (GF.inv y.v) _ zlt (GF.inv_lt _)))
                      repeat still_step
                      refine wpStill_nil ?_
                      go_wp2_with fail
                      go_roundw
                      case rel =>
                        exact ⟨j + 1, by omega, by go_num, HB5.out.drew.setCell (HG5.out.baseG k2 hkn2) _, (HG5.out.drew.set hkn2 j (z * y.inv)).congr (fun a b _ _ => by
                          by_cases e1 : a = k2
                          · subst e1
                            by_cases e2 : b = j
                            · subst e2; simp [GF.F.mul_comm, HZ5.out]
                            · by_cases e3 : b < j
                              · simp [e2, e3, show b < j + 1 by omega]
                              · simp [e2, e3, show ¬ b < j + 1 by omega]
                          · simp [e1])⟩
                      case measure => simp [intOf]; omega
                    · obtain ⟨sg, hsg⟩ : ∃ sg : Nat → Nat → GF.F, sg = fun a b => if a = k2 then y.inv * u k2 b else u a b := ⟨_, rfl⟩
                      have HSG := Lib.hid hsg
                      have hg6 := HG5.out.congr (t' := sg) (fun a b _ hb => by
                        rw [hsg]
                        by_cases e1 : a = k2
                        · subst e1; simp [show b < j by omega]
                        · simp [e1])
                      have HG6 := Lib.hid hg6
                      clear hsg hg6
                      go_wp2_with fail
                      go_loopw [14] (fun q wx => ∃ i : Nat, i ≤ n ∧ q = .int .i64 i ∧ Below w.heap.size w wx ∧ Grid wx w.heap.size R n (2 * n) G1 C1 (elim sg k2 i)) (fun q _ => n - (intOf q).toNat)
                      case atStart => exact ⟨0, by omega, rfl, HB5.out, HG6.out.congr (fun a b _ _ => by rw [elim_zero])⟩
                      case round =>
                        rename World => wx
                        obtain ⟨i, hi, rfl, hb7, hg7⟩ := hrel
                        have HB7 := Lib.hid hb7
                        have HG7 := Lib.hid hg7
                        clear hb7 hg7
                        by_cases hin : i < n
                        · have hc7 := HG7.out.ocell hin
                          have hi7 := HG7.out.icell hin (show k2 < 2 * n by omega)
                          rw [elim_at] at hi7
                          obtain ⟨f, hf⟩ : ∃ f, f = sg i k2 := ⟨_, rfl⟩
                          rw [← hf] at hi7
                          have HF := Lib.hid hf
                          clear hf
                          have flt := f.lt
                          by_cases hik : i = k2
                          · have ht : ((i : Int) != (k2 : Int)) = false := by rw [hik]; simp
                            have HIK := Lib.hid hik
                            clear hik
                            go_wp2_with fail
                            go_loop [16] (fun q => q = .int .i64 0) (fun _ => 0)
                            case atStart => rfl
                            case round =>
                              subst hrel
                              go_wp2_with fail
                              go_roundw
                              case rel => exact ⟨i + 1, by omega, by go_num, HB7.out, HG7.out.congr (fun a b _ _ => by rw [elim_pivot HIK.out])⟩
                              case measure => simp [intOf]; omega
                          · have ht : ((i : Int) != (k2 : Int)) = true := by rw [bne_iff_ne]; omega
                            go_wp2_with fail
                            go_loopw [16] (fun q wz => ∃ j : Nat, j ≤ 2 * n ∧ q = .int .i64 j ∧ Below w.heap.size w wz ∧ Grid wz w.heap.size R n (2 * n) G1 C1 (elimTo sg k2 i j)) (fun q _ => 2 * n - (intOf q).toNat)
                            case atStart => exact ⟨0, by omega, rfl, HB7.out, HG7.out.congr (fun a b _ _ => by rw [elimTo_zero])⟩
                            case round =>
                              rename World => wz
                              obtain ⟨j8, hj8, rfl, hb8, hg8⟩ := hrel
                              have HB8 := Lib.hid hb8
                              have HG8 := Lib.hid hg8
                              clear hb8 hg8 hc7 hi7
                              by_cases hj9 : j8 < 2 * n
                              · have hc8 := HG8.out.ocell hin
                                have hc9 := HG8.out.ocell hkn2
                                have hi8 := HG8.out.icell hin hj9
                                have hi9 := HG8.out.icell hkn2 hj9
                                have hf8 := (HG8.out.inner i hin).frozen j8
                                rw [elimTo_self] at hi8
                                rw [elimTo_pivot hik] at hi9
                                obtain ⟨z1, hz1⟩ : ∃ f, f = sg i j8 := ⟨_, rfl⟩
                                obtain ⟨z2, hz2⟩ : ∃ f, f = sg k2 j8 := ⟨_, rfl⟩
                                rw [← hz1] at hi8
                                rw [← hz2] at hi9
                                have HZ1 := Lib.hid hz1
                                have HZ2 := Lib.hid hz2
                                clear hz1 hz2
                                have z2lt := z2.lt
                                have hxor := Lib.hid (u8_xor_nat z1.v (GF.mul f.v z2.v) z1.lt (GF.mul_lt flt))
                                go_wp2_with fail
                                refine wp_region_still_tail 23 (by kernel_rfl) (by kernel_rfl) ?_
                                simp only [List.take_succ_cons, List.take_zero, List.drop_succ_cons, List.drop_zero]
                                repeat still_step
                                still_call (still (refMul_any f.v z2.v _ flt z2lt))
                                repeat still_step
                                refine wpStill_nil ?_
                                go_wp2_with fail
                                rw [hxor.out]
                                go_roundw
                                case rel =>
                                  exact ⟨j8 + 1, by omega, by go_num, HB8.out.drew.setCell (HG8.out.baseG i hin) _, (HG8.out.drew.set hin j8 (z1 + f * z2)).congr (fun a b _ _ => by
                                    rw [HZ1.out, HF.out, HZ2.out, elimTo_step])⟩
                                case measure => simp [intOf]; omega
                              · have HJ9 := Lib.hid (show j8 = 2 * n by omega)
                                go_wp2_with fail
                                go_roundw
                                case rel => exact ⟨i + 1, by omega, by go_num, HB8.out, HG8.out.congr (fun a b _ hb => by rw [HJ9.out, elimTo_all hik hb])⟩
                                case measure => simp [intOf]; omega
                        · have HIN := Lib.hid (show i = n by omega)
                          go_wp2_with fail
                          go_roundw
                          case rel =>
                            exact ⟨k2 + 1, GF.gj k2 p t, G1, C1, by omega, by go_num, HB7.out, gjTo_go hgj.out hkp hp hz.out (fun e => by rw [HX.out, e] at H0; exact H0.out rfl), HG7.out.congr (fun a b ha hb => by
                              rw [HIN.out, elim_all ha, HSG.out, HY.out, HU.out]
                              exact gj_of t p k2 a b)⟩
                          case measure => simp [intOf]; omega
            · have hpe : p = n := by omega
              have HPE := Lib.hid hpe
              have htn : ((p : Int) == (n : Int)) = true := by rw [hpe]; simp
              have hfin := Lib.hid (gjTo_stop hgj.out hkn2 (by rw [← HPE.out]; exact hz.out))
              clear hpe
              go_wp2_with fail
              go_ret2
              exact .inr ⟨by rw [← HA.out]; exact hfin.out, rfl, HB3.out⟩
        · have HK9 := Lib.hid (show k2 = n by omega)
          have hB9 := HB3.out.size
          go_wp2_with fail
          go_loopw [17, 18] (fun v q wo => ∃ (i : Nat) (g c : Nat → Nat), i ≤ n ∧ q = .int .i64 i ∧ Below wq.heap.size wq wo ∧ GridO wo wq.heap.size 31 5 v i n g c (fun a b => t a (n + b))) (fun _ q _ => n - (intOf q).toNat)
          case atStart => exact ⟨0, fun _ => 0, fun _ => 0, by omega, rfl, Below.refl _ _, GridO.nil _ _ _ _ _ _ _ _⟩
          case round =>
            rename World => wo
            obtain ⟨i, g, c, hi, rfl, hbel, hgrid⟩ := hrel
            have HB4 := Lib.hid hbel
            have HG4 := Lib.hid hgrid
            clear hbel hgrid
            by_cases hin : i < n
            · have hgr := HG3.out.below HB4.out
              have hoc := hgr.ocell hin
              have hnews := fun (j : Nat) (hj : j < n) => hgr.icell (i := i) (j := n + j) hin (by omega)
              have hcap := hgr.cap i hin
              have HNW := Lib.hid hnews
              have hszo := HB4.out.size
              clear hgr hnews
              go_wp2_with (first | (at_builtin; refine wpList_append_own _ rfl (.const (.slice none 0 0)) (.tmp 189) 31 rfl wo.heap.size 5 i5 (.int .u8 0) 1 1 Try.underlying31 hi5 hz50 hz51 hz52 rfl (by decide) (.slice none 0 0) 0 [] rfl (World.ownsRow_nil _ _ _ _) ⟨G i, n, none⟩ _ _ ((List.range n).map fun j => .int .u8 (((t i (n + j)).v : Nat) : Int)) rfl (by simp; omega) (by intro j u hu; exact app_news HNW.out j u hu) (by intro u hu; exact app_one u hu) (by unfold maxLen; omega) (by omega) (Nat.le_refl _) ?_; intro v' w5 hown5 hgrow5 hnil5; obtain ⟨g5, cap5, rfl, hbg5, hnc5, hcm5, hog5⟩ := ownT_of_ownsRow hown5 (by omega); have hg6 := HG4.out.of_blocks (w' := w5) (fun b hb => hgrow5.block b hb (by simp [Value.ownBlock])); have HG6 := Lib.hid hg6; have HB6 := Lib.hid (HB4.out.grown hgrow5 hszo (by simp [Value.ownBlock])); have HO5 := Lib.hid (And.intro hog5 (And.intro hnc5 (And.intro hcm5 hbg5))); have hs5 := hgrow5.size; clear hown5 hgrow5 hnil5 hog5 hg6) | (at_builtin; refine wpList_append_own _ rfl (.tmp 183) (.tmp 191) 22 rfl wq.heap.size 31 i29 (.slice none 0 0) 1 24 Try.underlying22 hi29 hz290 hz291 hz292 rfl (by decide) u17 i (slices g c n i) rfl (HG6.out.outer.alloc _) ⟨w5.heap.size, 0, none⟩ 1 1 [.slice (some ⟨g5, 0, none⟩) (2 * n - n) cap5] rfl rfl (by intro j u hj; match j, hj with | 0, hj => (simp at hj; subst hj; simp [Addr.add])) (by intro u hu; simp at hu; subst hu; rfl) (by unfold maxLen; omega) (by omega) (by simp; omega) ?_; intro v' w6 hown6 hgrow6 hnil6; have HO6 := Lib.hid (And.intro hown6 hgrow6); clear hown6 hgrow6 hnil6))
              go_roundw
              case rel =>
                obtain ⟨hog5, hnc5, hcm5, hbg5⟩ := HO5.out
                obtain ⟨hown6, hgrow6⟩ := HO6.out
                have h2n : 2 * n - n = n := by omega
                rw [h2n] at hown6 hgrow6
                have hog6 : OwnT w5 g5 5 n (fun j => .int .u8 (((t i (n + j)).v : Nat) : Int)) := by
                  rw [h2n, Nat.zero_add] at hog5
                  exact hog5.congr fun j hj => by simp [hj]
                have hg3 := HG6.out.of_blocks (w' := w5.alloc (.cells #[.slice (some ⟨g5, 0, none⟩) n cap5] 31)) (fun b hb => Below.heap_alloc _ _ _ hb)
                have hP := hg3.push (by decide) (hog6.alloc (.cells #[.slice (some ⟨g5, 0, none⟩) n cap5] 31)) (by omega) (fun a ha => by have := HG4.out.lt ha; omega) ⟨by omega, hcm5⟩ hown6 hgrow6
                exact ⟨i + 1, _, _, by omega, by go_num, (HB6.out.alloc (by omega) _).grown hgrow6 (by simp; omega) (fun b hb => (HG6.out.outer.lt b hb).1), hP.congr (fun a b _ _ => by
                    by_cases e : a = i
                    · subst e; simp
                    · simp [e])⟩
              case measure => simp [intOf]; omega
            · have hie : i = n := by omega
              have hg9 := HG4.out
              rw [hie] at hg9
              obtain ⟨R9, c9, rfl, h91, h92, hgr9⟩ := hg9.grid (by decide) (by omega)
              have HG9 := Lib.hid hgr9
              clear hg9 hgr9 hie
              go_wp2_with fail
              go_ret2
              exact .inl ⟨t, _, by rw [← HA.out]; exact (by have := hgj.out; rw [HK9.out] at this; exact this), rfl, HG9.out.mat h91 h92 (by omega) (by omega), HB3.out.trans (HB4.out.mono hB9)⟩

end Go.Proofs.Ytojfeldafbabeaa
