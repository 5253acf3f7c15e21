/- MarginMotion: the walk. -/
import Derived.Test.YthljjllcdocfiaaG5
import Derived.Test.YthljjllcdocfiaaLy
set_option linter.unusedVariables false
set_option linter.unusedSimpArgs false
set_option linter.unnecessarySimpa false
namespace Go.Proofs.Ythljjllcdocfiaa
open Go Go.RowKit Go.MapKept

theorem near_mem {l : List Cp} {c : Cp} (h : c ∈ nearL l) : c.2.1 ≠ 8 := by
  unfold nearL at h
  obtain ⟨b, _, rfl⟩ := List.mem_map.1 h
  unfold nearC
  simp
  omega
/-- a pointer to a new block that holds c -/
def Pn (wr : World) (c : Array Value) (u : Value) (w : World) : Prop := ∃ b, u = .pointer (some ⟨b, 0, none⟩) ∧ Holds w b c ∧ wr.heap.size ≤ b ∧ Below wr.heap.size wr w
theorem Pn.stable (wr : World) (c : Array Value) (u : Value) : Stable (Pn wr c u) := by
  rintro wa wb ⟨b, h1, h2, h3, h4⟩ hb
  exact ⟨b, h1, h2.keep hb, h3, h4.trans (hb.mono h4.size)⟩
theorem Pn.below {wr w : World} {c : Array Value} {u : Value} (h : Pn wr c u w) : Below wr.heap.size wr w := by
  obtain ⟨b, h1, h2, h3, h4⟩ := h
  exact h4
/-- a list that a call built, and a slice laid beside it -/
def Q1 (w0 : World) (L : List Cp) (u : Value) (w : World) : Prop := (∃ p c, u = .slice p L.length c) ∧ Ow eC 44 w0 w u L
def Q2 (w0 : World) (M : List Cp) (u : Value) (w : World) : Prop := (∃ b, u = .slice (some ⟨b, 0, none⟩) M.length M.length) ∧ Rd eC w u M ∧ Below w0.heap.size w0 w
def Q12 (w0 : World) (L M : List Cp) (u u' : Value) (w : World) : Prop := Q1 w0 L u w ∧ Q2 w0 M u' w
theorem Q1.grow {w0 w w' : World} {L : List Cp} {u : Value} (h : Q1 w0 L u w) (hb : Below w.heap.size w w') : Q1 w0 L u w' := ⟨h.1, h.2.grow hb⟩
theorem Q2.grow {w0 w w' : World} {L : List Cp} {u : Value} (h : Q2 w0 L u w) (hb : Below w.heap.size w w') : Q2 w0 L u w' := ⟨h.1, h.2.1.keep hb, h.2.2.trans (hb.mono h.2.2.size)⟩
theorem Q12.grow {w0 w w' : World} {L M : List Cp} {u u' : Value} (h : Q12 w0 L M u u' w) (hb : Below w.heap.size w w') : Q12 w0 L M u u' w' := ⟨h.1.grow hb, h.2.grow hb⟩
theorem Q2.new {w0 w : World} (hb : Below w0.heap.size w0 w) (M : List Cp) (hM : M.length ≤ 1000000) : Q2 w0 M (.slice (some ⟨w.heap.size, 0, none⟩) M.length M.length) (w.alloc (.cells (eC.flat M).toArray 44)) := ⟨⟨_, rfl⟩, Rd.new (E := eC) w M hM 44, hb.alloc hb.size _⟩
theorem Q1.call {w0 w w' : World} {L : List Cp} {e : Ending} (hb : Below w0.heap.size w0 w) (h : IsCps w L e w') : ∃ u, e = .returned u ∧ Q1 w0 L u w' ∧ Below w.heap.size w w' := by
  obtain ⟨p, c, rfl, ho⟩ := h
  exact ⟨_, rfl, ⟨⟨p, c, rfl⟩, ho.down hb⟩, ho.below⟩
set_option maxHeartbeats 8000000 in
set_option maxRecDepth 20000 in
theorem motion_law (k st dr mo : Int) (v : Value) (l : List Cp) (x : Cp) (w : World) (h : Rd eC w v l) (h64 : ∀ c ∈ l, InC c) (hx : InC x) (hk : In64 k) (hs : In64 st) (hd : In64 dr) (hm : In64 mo) :
    Calls Try.prog 8 #[.int .i64 k, .int .i64 st, v, .agg #[.int .i64 x.1, .int .i64 x.2.1, .int .i64 x.2.2], .int .i64 dr, .int .i64 mo] w fun e w' => e = .returned (.bool true) ∧ Below w.heap.size w w' := by
  obtain ⟨a, cap, rfl, hlen⟩ := h.open
  obtain ⟨xf, xd, xs⟩ := x
  simp only
  have H := Lib.hid h
  obtain ⟨n, hn⟩ : ∃ n, l.length = n := ⟨_, rfl⟩
  have HN := Lib.hid hn
  have B0 := Lib.hid (below_alloc w (.cells #[.int .i64 xf, .int .i64 xd, .int .i64 xs] 44))
  have H0 := Lib.hid (h.keep B0.out)
  obtain ⟨q, hq⟩ : ∃ q, decide (l.length ≤ 24) = q := ⟨_, rfl⟩
  have KS := Lib.hid (short_as _ _ l [] _ H0.out (Rd.nil _ none 0 (by omega)) (q := q) (by simp [hq]))
  rw [hn] at KS hlen hq ⊢
  cases q with
  | false =>
    clear h hn hq
    go_enter Try.func8, Try.ntmps8
    go_wp2_with (first
      | (go_at_call 11; (with_reducible refine KS.out.mono ?_); rintro e w1 ⟨rfl, rfl⟩)
      | (go_at_call 12; (with_reducible refine (awake_any _).mono ?_); rintro e w2 ⟨rfl, hb⟩; have HB := Lib.hid (B0.out.trans (hb.mono B0.out.size)); clear hb))
    go_ret
    exact ⟨rfl, HB.out⟩
  | true =>
    have hn24 : n ≤ 24 := by simpa using hq
    have HR0 : Rd eC ((w.alloc (.cells #[.int .i64 xf, .int .i64 xd, .int .i64 xs] 44)).alloc (.cells #[.int .i64 xf, .int .i64 xd, .int .i64 xs] 44)) (.slice (some ⟨w.heap.size + 1, 0, none⟩) 1 1) [(xf, xd, xs)] := by
      have := Rd.new (E := eC) (w.alloc (.cells #[.int .i64 xf, .int .i64 xd, .int .i64 xs] 44)) [(xf, xd, xs)] (by simp) 44
      rw [show (w.alloc (.cells #[.int .i64 xf, .int .i64 xd, .int .i64 xs] 44)).heap.size = w.heap.size + 1 by simp] at this
      exact this
    have B1 := Lib.hid (B0.out.trans ((below_alloc (w.alloc (.cells #[.int .i64 xf, .int .i64 xd, .int .i64 xs] 44)) (.cells #[.int .i64 xf, .int .i64 xd, .int .i64 xs] 44)).mono B0.out.size))
    have KH := near_any _ [(xf, xd, xs)] _ HR0 (by intro c hc; simp at hc; subst hc; exact hx) (by simp)
    have KN := fun wg (hw : Below w.heap.size w wg) => Lib.hid (near_any _ l wg (h.keep hw) h64 (by omega))
    rw [hn] at KN
    have HNL := Lib.hid (show (nearL l).length = n by unfold nearL; rw [List.length_map, hn])
    unfold In64 at hk hs hd hm
    obtain ⟨f', hf'⟩ : ∃ x, xf % 5 = x := ⟨_, rfl⟩
    obtain ⟨d', hd'⟩ : ∃ x, xd % 7 = x := ⟨_, rfl⟩
    obtain ⟨s', hs'⟩ : ∃ x, xs % 16 = x := ⟨_, rfl⟩
    obtain ⟨e', he'⟩ : ∃ x, dr % 5 = x := ⟨_, rfl⟩
    obtain ⟨m', hm'⟩ : ∃ x, mo % 16 = x := ⟨_, rfl⟩
    obtain ⟨k', hk'⟩ : ∃ x, k % 4 = x := ⟨_, rfl⟩
    obtain ⟨t', ht'⟩ : ∃ x, st % 4 = x := ⟨_, rfl⟩
    have W1 := fun wg => Lib.hid (within_any dr 5 wg (by omega) (by omega) hd.1 hd.2)
    have W2 := fun wg => Lib.hid (within_any mo 16 wg (by omega) (by omega) hm.1 hm.2)
    have W3 := fun wg => Lib.hid (within_any k 4 wg (by omega) (by omega) hk.1 hk.2)
    have W4 := fun wg => Lib.hid (within_any st 4 wg (by omega) (by omega) hs.1 hs.2)
    rw [he'] at W1
    rw [hm'] at W2
    rw [hk'] at W3
    rw [ht'] at W4
    have KH' := Lib.hid (show Calls Try.prog 13 #[.slice (some ⟨w.heap.size + 1, 0, none⟩) 1 1] _ (fun e w' => ∃ p c, e = .returned (.slice p 1 c) ∧ Ow eC 44 _ w' (.slice p 1 c) [(f', d', s')]) from by
      have e : nearL [(xf, xd, xs)] = [(f', d', s')] := by rw [← hf', ← hd', ← hs']; rfl
      rw [e] at KH
      exact KH)
    obtain ⟨z, hz, hz16, hzb⟩ := or_bits (x := s') (y := m') (by omega) (by omega)
    have he5 : 0 ≤ e' ∧ e' < 5 := by omega
    have hk4 : 0 ≤ k' ∧ k' < 4 := by omega
    have ht4 : 0 ≤ t' ∧ t' < 4 := by omega
    obtain ⟨he51, he52⟩ := he5
    obtain ⟨hk41, hk42⟩ := hk4
    obtain ⟨ht41, ht42⟩ := ht4
    obtain ⟨x1, hx1⟩ : ∃ x : Int, (leastN (nearL l ++ [(f', 8, s'), (f', 9 + e', (z : Int))]) (1 + t').toNat : Int) - (1 + k') = x := ⟨_, rfl⟩
    have HE1 := Lib.hid (show margF (1 + k') (1 + t') (nearL l ++ [(f', 8, s'), (f', 9 + e', (z : Int))]) = (x1, 0) by rw [marg_small hk41 hk42 ht41 ht42, hx1])
    rw [motion_same (l := nearL l) (h := (f', 8, s')) (t := (f', 9 + e', (z : Int))) rfl hzb] at hx1
    have HE2 := Lib.hid (show margF (1 + k') (1 + t') (nearL l ++ [(f', 9 + e', (z : Int))]) = (x1, 0) by rw [marg_small hk41 hk42 ht41 ht42, hx1])
    have HZ := Lib.hid (show survF (1 + k') (1 + t') (nearL l ++ [(f', 8, s'), (f', 9 + e', (z : Int))]) [8] = decide (0 ≤ x1) by rw [surv_small hk41 hk42 ht41 ht42, motion_loss (fun c hc => near_mem hc) rfl (by show (9 + e' : Int) ≠ 8; omega), hx1])
    have hwe : IntKind.i64.wrap (9 + e') = 9 + e' := IntWalk.i64_in _ (by omega)
    clear h hn hq KH HR0 hf' hd' hs' he' hm' hk' ht' hk hs hd hm hx h64 hzb hx1
    go_enter Try.func8, Try.ntmps8
    go_wp2_with (first
      | (go_at_call 11; (with_reducible refine KS.out.mono ?_); rintro e w1 ⟨rfl, rfl⟩)
      | (go_at_call 13; (with_reducible refine KH'.out.mono ?_); rintro e w2 ⟨p2, c2, rfl, ho⟩; obtain ⟨b2, o2, rfl, hb2, k0, k1, k2⟩ := (ho.rd (by simp)).cp (i := 0) rfl; simp only [Nat.zero_mul, Nat.add_zero] at k0 k1 k2; have B2 := Lib.hid (B1.out.trans (ho.below.mono B1.out.size)); clear ho))
    have HH := Lib.hid (Holds.new w2 #[.int .i64 f', .int .i64 8, .int .i64 s'] 44)
    have B4 := Lib.hid (B2.out.trans ((below_alloc w2 (.cells #[.int .i64 f', .int .i64 8, .int .i64 s'] 44)).mono B2.out.size))
    obtain ⟨bh, hbh⟩ : ∃ b, w2.heap.size = b := ⟨_, rfl⟩
    rw [hbh] at HH ⊢
    generalize w2.alloc (.cells #[.int .i64 f', .int .i64 8, .int .i64 s'] 44) = w4 at HH B4 ⊢
    clear k0 k1 k2 hb2 hbh
    refine wp_region_late_from (Below w4.heap.size w4) (Below w4.heap.size w4) 11 (by kernel_rfl) ?_ (fun wa wb h1 h2 => h1.trans (h2.mono h1.size)) (fun _ h => h) (Below.refl _ _) ?_
    · kernel_rfl
    simp only [List.take_succ_cons, List.take_zero, List.drop_succ_cons, List.drop_zero]
    repeat first
             | (apply bRow_plain
                · exact rfl
                · intro wg hg
                  ((have x0 := (hg.cell (p := ⟨bh, 0, none⟩) HH.out.lt).trans (HH.out.cell 0 _ rfl); have x2 := (hg.cell (p := ⟨bh, 2, none⟩) HH.out.lt).trans (HH.out.cell 2 _ rfl)))
                  go_simp
                  first
                    | exact rfl
                    | exact Below.refl _ _
                    | exact ⟨Below.refl _ _, rfl⟩
                    | ((first
| ((with_reducible refine (W1 _).out.mono ?_); rintro e w' ⟨rfl, rfl⟩; exact ⟨rfl, Below.refl _ _⟩)
| ((with_reducible refine (W2 _).out.mono ?_); rintro e w' ⟨rfl, rfl⟩; exact ⟨rfl, Below.refl _ _⟩)))
                intro K hK
                go_simp
                refine hK _ ?_
                clear hK K)
             | (apply bRow_step
                · go_simp; done
                · intro wg hg
                  ((have x0 := (hg.cell (p := ⟨bh, 0, none⟩) HH.out.lt).trans (HH.out.cell 0 _ rfl); have x2 := (hg.cell (p := ⟨bh, 2, none⟩) HH.out.lt).trans (HH.out.cell 2 _ rfl)))
                  go_simp
                  first
                    | exact rfl
                    | exact Below.refl _ _
                    | exact ⟨Below.refl _ _, rfl⟩
                    | ((first
| ((with_reducible refine (W1 _).out.mono ?_); rintro e w' ⟨rfl, rfl⟩; exact ⟨rfl, Below.refl _ _⟩)
| ((with_reducible refine (W2 _).out.mono ?_); rintro e w' ⟨rfl, rfl⟩; exact ⟨rfl, Below.refl _ _⟩)))
                intro K hK
                go_simp
                refine hK _ ?_
                clear hK K)
             | (apply bRow_not
                · go_simp; done
                intro K hK
                go_simp
                refine hK _ ?_
                clear hK K)
    refine bRow_nil ?_
    refine sRow_step (Pn w4 #[.int .i64 0, .int .i64 0, .int .i64 0]) rfl (Pn.stable w4 _) (fun u w h => h.below) ?_ ?_
    · intro wg hg
      go_simp
      exact ⟨_, rfl, Holds.new _ _ _, hg.size, hg.alloc hg.size _⟩
    rintro u ⟨wz, bt, rfl, -⟩ K hK
    go_simp
    refine hK _ ?_
    clear hK K
    refine sRow_step (fun u w => u = undef ∧ Pn w4 #[.int .i64 f', .int .i64 (9 + e'), .int .i64 z] (.pointer (some ⟨bt, 0, none⟩)) w) rfl ?_ (fun u w h => h.2.below) ?_ ?_
    · rintro u wa wb ⟨h1, h2⟩ hb; exact ⟨h1, Pn.stable _ _ _ _ _ h2 hb⟩
    · rintro wg ⟨b, e, hh, h3, h4⟩
      cases e
      have x0 := hh.cell 0 _ rfl
      have x1 := hh.cell 1 _ rfl
      have x2 := hh.cell 2 _ rfl
      have y0 := hh.thaw 0
      have y1 := hh.thaw 1
      have y2 := hh.thaw 2
      have hl := hh.lt
      go_simp
      exact ⟨_, rfl, ((hh.set 0 _).set 1 _).set 2 _, h3, ((h4.setCell h3 _).setCell h3 _).setCell h3 _⟩
    rintro u ⟨wz, rfl, -⟩ K hK
    go_simp
    refine hK _ ?_
    clear hK K
    refine sRow_nil ?_
    rintro w5 ⟨-, b, e, hht, h3, hb5⟩
    cases e
    have HT := Lib.hid hht
    have B5 := Lib.hid (B4.out.trans (hb5.mono B4.out.size))
    have HH5 := Lib.hid (HH.out.keep hb5)
    have KN5 := fun (wg : World) (hw : Below w5.heap.size w5 wg) => KN wg (B5.out.trans (hw.mono B5.out.size))
    clear hht h3 hb5
    go_wp2_with fail
    refine wp_region_pick_tail (Below w5.heap.size w5) (Below w5.heap.size w5) [0, 2, 3] 2 5 (by kernel_rfl) ?_ (fun wa wb h1 h2 => h1.trans (h2.mono h1.size)) (fun _ h => h) (Below.refl _ _) ?_
    · kernel_rfl
    repeat (apply pRow_plain
            · exact rfl
            · exact rfl
            · intro wg hg
              ((have x0 := (hg.cell (p := ⟨bh, 0, none⟩) HH5.out.lt).trans (HH5.out.cell 0 _ rfl); have x1 := (hg.cell (p := ⟨bh, 1, none⟩) HH5.out.lt).trans (HH5.out.cell 1 _ rfl); have x2 := (hg.cell (p := ⟨bh, 2, none⟩) HH5.out.lt).trans (HH5.out.cell 2 _ rfl); have y0 := (hg.cell (p := ⟨bt, 0, none⟩) HT.out.lt).trans (HT.out.cell 0 _ rfl); have y1 := (hg.cell (p := ⟨bt, 1, none⟩) HT.out.lt).trans (HT.out.cell 1 _ rfl); have y2 := (hg.cell (p := ⟨bt, 2, none⟩) HT.out.lt).trans (HT.out.cell 2 _ rfl)))
              go_simp
              first
                | exact rfl
                | exact Below.refl _ _
                | exact ⟨Below.refl _ _, rfl⟩
                | ((fail))
            intro K hK
            go_simp
            refine hK _ ?_
            clear hK K)
    refine pRow_nil ?_
    refine lAnyL_two 1 4 rfl rfl ?_ rfl rfl (Q1 w5 (nearL l)) (Q2 w5 [(f', 8, s'), (f', 9 + e', (z : Int))]) (Q12 w5 (nearL l) [(f', 8, s'), (f', 9 + e', (z : Int))]) (fun u wa wb h hb => h.grow hb) (fun u wa wb h hb => h.grow hb) (fun u u' wa wb h hb => h.grow hb) (fun u w h => h.2.below) (fun u w h => h.2.2) (fun u u' w h => h.2.2.2) ?_ ?_ ?_ ?_ ?_
    · kernel_rfl
    · intro w hw
      go_simp
      refine (KN5 w hw).out.mono ?_
      intro e w' hi
      obtain ⟨u, he, hq, _⟩ := Q1.call hw hi
      exact ⟨u, he, hq⟩
    · intro w hw
      go_simp
      exact Q2.new hw [(f', 8, s'), (f', 9 + e', (z : Int))] (by simp)
    · intro u w hw
      go_simp
      exact ⟨hw.grow (below_alloc _ _), Q2.new hw.2.below [(f', 8, s'), (f', 9 + e', (z : Int))] (by simp)⟩
    · intro u' w hw
      go_simp
      refine (KN5 w hw.2.2).out.mono ?_
      intro e w' hi
      obtain ⟨u, he, hq, hb⟩ := Q1.call hw.2.2 hi
      exact ⟨u, he, hq, hw.grow hb⟩
    rintro u u' ⟨wz, ⟨⟨p6, c6, rfl⟩, -⟩, ⟨b6, rfl⟩, -, -⟩ K hK
    rw [HNL.out] at hK ⊢
    go_simp
    refine hK _ ?_
    clear hK K
    refine ⟨?_, ?_⟩
    · kernel_rfl
    rintro w6 ⟨⟨-, ho6⟩, -, hr6, -⟩
    refine wpList_more elt22 (E := eC) (l := nearL l) (m := [(f', 8, s'), (f', 9 + e', (z : Int))]) _ _ rfl rfl rfl rfl ho6 hr6 (by rw [HNL.out]; simp; omega) ?_
    intro p7 c7 w7 HO7 HG7
    rw [HNL.out, show ([(f', 8, s'), (f', 9 + e', (z : Int))] : List Cp).length = 2 from rfl] at HO7 ⊢
    have HL1 := Lib.hid (show (nearL l ++ [(f', 8, s'), (f', 9 + e', (z : Int))]).length = n + 2 by rw [List.length_append, HNL.out]; rfl)
    have HR7 := Lib.hid (HO7.out.rd (by rw [HL1.out]; omega))
    have B7 := Lib.hid (B5.out.trans (HO7.out.below.mono B5.out.size))
    have HT7 := Lib.hid (HT.out.keep HO7.out.below)
    clear ho6 hr6 HG7
    go_wp2_with (first
      | (go_at_call 14; (with_reducible refine (W3 _).out.mono ?_); rintro e w8 ⟨rfl, rfl⟩)
      | (go_at_call 14; (with_reducible refine (W4 _).out.mono ?_); rintro e w8 ⟨rfl, rfl⟩)
      | (go_at_call 15; (with_reducible refine (Margin_as _ (1 + k') (1 + t') (nearL l ++ [(f', 8, s'), (f', 9 + e', (z : Int))]) _ HR7.out HE1.out).mono ?_); rintro e w8 ⟨rfl, hb⟩; have B8 := Lib.hid (B7.out.trans (hb.mono B7.out.size)); have HT8 := Lib.hid (HT7.out.keep hb); have HR8 := Lib.hid (HR7.out.keep hb); clear hb))
    have KN8 := fun (wg : World) (hw : Below w8.heap.size w8 wg) => KN wg (B8.out.trans (hw.mono B8.out.size))
    refine wp_region_pick (Below w8.heap.size w8) (Below w8.heap.size w8) [0, 1, 2, 4] 9 (by kernel_rfl) (by kernel_rfl) rfl ?_ (fun wa wb h1 h2 => h1.trans (h2.mono h1.size)) (fun _ h => h) (Below.refl _ _) ?_
    · kernel_rfl
    repeat (apply pRow_plain
            · exact rfl
            · exact rfl
            · intro wg hg
              ((have y0 := (hg.cell (p := ⟨bt, 0, none⟩) HT8.out.lt).trans (HT8.out.cell 0 _ rfl); have y1 := (hg.cell (p := ⟨bt, 1, none⟩) HT8.out.lt).trans (HT8.out.cell 1 _ rfl); have y2 := (hg.cell (p := ⟨bt, 2, none⟩) HT8.out.lt).trans (HT8.out.cell 2 _ rfl)))
              go_simp
              first
                | exact rfl
                | exact Below.refl _ _
                | exact ⟨Below.refl _ _, rfl⟩
                | ((fail))
            intro K hK
            go_simp
            refine hK _ ?_
            clear hK K)
    refine pRow_nil ?_
    refine lAny_two 3 5 rfl rfl ?_ rfl rfl (Q1 w8 (nearL l)) (Q2 w8 [(f', 9 + e', (z : Int))]) (Q12 w8 (nearL l) [(f', 9 + e', (z : Int))]) (fun u wa wb h hb => h.grow hb) (fun u wa wb h hb => h.grow hb) (fun u u' wa wb h hb => h.grow hb) (fun u w h => h.2.below) (fun u w h => h.2.2) (fun u u' w h => h.2.2.2) ?_ ?_ ?_ ?_ ?_
    · kernel_rfl
    · intro w hw
      go_simp
      refine (KN8 w hw).out.mono ?_
      intro e w' hi
      obtain ⟨u, he, hq, _⟩ := Q1.call hw hi
      exact ⟨u, he, hq⟩
    · intro w hw
      go_simp
      exact Q2.new hw [(f', 9 + e', (z : Int))] (by simp)
    · intro u w hw
      go_simp
      exact ⟨hw.grow (below_alloc _ _), Q2.new hw.2.below [(f', 9 + e', (z : Int))] (by simp)⟩
    · intro u' w hw
      go_simp
      refine (KN8 w hw.2.2).out.mono ?_
      intro e w' hi
      obtain ⟨u, he, hq, hb⟩ := Q1.call hw.2.2 hi
      exact ⟨u, he, hq, hw.grow hb⟩
    rintro u u' ⟨wz, ⟨⟨p9, c9, rfl⟩, -⟩, ⟨b9, rfl⟩, -, -⟩ K hK
    rw [HNL.out] at hK ⊢
    go_simp
    refine hK _ ?_
    clear hK K
    refine lAny_step [6] ?_ (by decide) ?_
    · kernel_rfl
    intro jj hj
    obtain rfl : jj = 6 := by simpa using hj
    refine lOp_special' rfl (fun u w => AS w8 44 3 u (n + 1) (eC.flat (nearL l) ++ eC.flat [(f', 9 + e', (z : Int))]) [] w) rfl (fun _ => AS.stable) (fun _ w h => h.below) ?_ ?_
    · rintro w ⟨⟨-, ho9⟩, -, hr9, -⟩
      have ho9' : Ow eC 44 w8 w (.slice p9 n c9) (nearL l) := ho9
      unfold Ow at ho9'
      rw [HNL.out] at ho9'
      exact sUpon_app elt22 _ _ rfl rfl rfl ho9' hr9.src (by simp; omega)
    intro ua _
    go_simp
    refine lAny_step [7] ?_ (by decide) ?_
    · kernel_rfl
    intro jj hj
    obtain rfl : jj = 7 := by simpa using hj
    refine lOp_special' rfl (fun u w => u = .tuple #[.int .i64 x1, .int .i64 0] ∧ Below w8.heap.size w8 w) rfl (fun _ wa wb h1 hb => ⟨h1.1, h1.2.trans (hb.mono h1.2.size)⟩) (fun _ w h => h.2) ?_ ?_
    · intro wa hg
      obtain ⟨pa, ca, rfl⟩ := owns_val hg.row
      have HL2 := Lib.hid (show (nearL l ++ [(f', 9 + e', (z : Int))]).length = n + 1 by rw [List.length_append, HNL.out]; rfl)
      have HOa := Lib.hid (own_of (E := eC) hg (I := nearL l ++ [(f', 9 + e', (z : Int))]) HL2.out.symm (flat_app _ _).symm)
      have HRa := Lib.hid (HOa.out.rd (by rw [HL2.out]; omega))
      clear hg
      go_simp
      refine (Margin_as _ (1 + k') (1 + t') (nearL l ++ [(f', 9 + e', (z : Int))]) _ HRa.out HE2.out).mono ?_
      rintro e wb ⟨rfl, hb⟩
      exact ⟨_, rfl, rfl, HOa.out.below.trans (hb.mono HOa.out.below.size)⟩
    rintro u ⟨wz, rfl, -⟩
    go_simp
    refine lAny_rest [8, 9, 10, 11, 12] (by kernel_rfl) ?_ ?_ ?_
    · kernel_rfl
    · kernel_rfl
    repeat (apply pRow_plain
            · exact rfl
            · exact rfl
            · intro wg hg
              ((skip))
              go_simp
              first
                | exact rfl
                | exact Below.refl _ _
                | exact ⟨Below.refl _ _, rfl⟩
                | ((fail))
            intro K hK
            go_simp
            refine hK _ ?_
            clear hK K)
    refine pRow_nil ?_
    intro wb hb
    have hb : Below w8.heap.size w8 wb := by first | exact hb | exact hb.2
    have Bb := Lib.hid (B8.out.trans (hb.mono B8.out.size))
    have HQb := Lib.hid (HR8.out.keep hb)
    clear hb
    go_wp2_with (first
      | (go_at_call 12; (with_reducible refine (awake_any _).mono ?_); rintro e wc ⟨rfl, hb⟩; have Bc := Lib.hid (Bb.out.trans (hb.mono Bb.out.size)); have HQc := Lib.hid ((HQb.out.keep hb).keep (below_alloc wc (.cells #[.int .i64 8] 3))); have HDc := Lib.hid (show Rd eI (wc.alloc (.cells #[.int .i64 8] 3)) (.slice (some ⟨wc.heap.size, 0, none⟩) 1 1) [8] from Rd.new (E := eI) wc [8] (by decide) 3); have Bd := Lib.hid (Bc.out.trans ((below_alloc wc (.cells #[.int .i64 8] 3)).mono Bc.out.size)); clear hb)
      | (go_at_call 20; (with_reducible refine (Survives_as _ _ (1 + k') (1 + t') (nearL l ++ [(f', 8, s'), (f', 9 + e', (z : Int))]) [8] _ HQc.out HDc.out (by rw [HL1.out]; omega) HZ.out).mono ?_); rintro e we ⟨rfl, hb⟩; have Be := Lib.hid (Bd.out.trans (hb.mono Bd.out.size)); clear hb))
    go_ret
    exact ⟨ret_bool (by simp), Be.out⟩
end Go.Proofs.Ythljjllcdocfiaa
