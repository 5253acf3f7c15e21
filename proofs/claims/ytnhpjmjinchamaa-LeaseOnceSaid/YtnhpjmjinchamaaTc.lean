/- The walk of add. -/
import Derived.Test.YtnhpjmjinchamaaTa
import Derived.IntWalk
set_option linter.unusedVariables false
set_option linter.unusedSimpArgs false
set_option linter.unnecessarySimpa false
namespace Go.Proofs.Ytnhpjmjinchamaa
open Go Go.RowKit Go.MapKept Go.ChangeMaps

/-- the table with one lease more -/
def addT (T : Tb) (l : Ls) : Ls × Tb :=
  let n := T.g (l.vol, l.frag) + 1
  let l' := { l with gen := n }
  (l', { T with g := upd T.g (l.vol, l.frag) n, h := if l.mov then T.h else upd T.h (l.vol, l.frag) (some l'), m := if l.mov then upd T.m (l.vol, l.frag) (some l') else T.m, u := upd T.u (l.drive, l.ext) (some l') })


set_option maxHeartbeats 1000000 in
set_option maxHeartbeats 1000000 in
set_option maxRecDepth 20000 in
theorem add_any {w : World} {i : Ids} {T : Tb} (h : TbAt w i T) (l : Ls) (hg1 : 0 ≤ T.g (l.vol, l.frag)) (hg2 : T.g (l.vol, l.frag) ≤ 4611686018427387904) : Calls Try.prog 43 #[i.ptr, lv l] w fun e w' =>
    e = .returned (.int .i64 (T.g (l.vol, l.frag) + 1)) ∧ TbAt w' i (addT T l).2 ∧ Only i.all w w' := by
  obtain ⟨G, hG⟩ : ∃ G, G = T.g (l.vol, l.frag) := ⟨_, rfl⟩
  obtain ⟨v, f, d, x, g0, mv⟩ := l
  rw [← hG] at hg1 hg2 ⊢
  have HG := Lib.hid hG
  have HW := Lib.hid (show IntKind.i64.wrap (G + 1) = G + 1 from IntWalk.i64_in _ (by omega))
  have HT := Lib.hid h
  clear h hG
  have HS := Lib.hid (((St.start HT.out).push _ #[.int .i64 v, .int .i64 f, .int .i64 d, .int .i64 x, .int .i64 g0, .bool mv] 46 rfl).push (w.heap.size + 1) #[.int .i64 v, .int .i64 f] 70 (by simp))
  cases mv
  all_goals
    go_enter Try.func43, Try.ntmps43
    go_wp2_with (go_at_call 35; refine (prep_any (HT.out.below (below_alloc _ _))).mono ?_; rintro e w1 ⟨rfl, rfl⟩)
    refine wp_region_late_tail (St w i _ T) 7 9 (by kernel_rfl) ?_ (St.stable _ _ _ _) HS.out ?_
    · kernel_rfl
    simp only [List.take_succ_cons, List.take_zero, List.drop_succ_cons, List.drop_zero]
    repeat first
             | (apply bRow_plain
                · exact rfl
                · intro wg hg
                  (((obtain ⟨c0, c1, c2, c3, c4, c5, f0, f1, f2, f3, f4, f5, cl⟩ := (hg).tb.box.lay6
                     obtain ⟨k0, k1, kf0, kf1, kl⟩ := (hg).mm.lay2 0 rfl
                     obtain ⟨b0, b1, b2, b3, b4, b5, bf0, bf1, bf2, bf3, bf4, bf5, bl⟩ := (hg).mm.lay6 1 rfl); have hlk := look_g_run hg.tb (v, f); rw [← HG.out] at hlk))
                  go_simp
                  first
                    | exact rfl
                    | exact Below.refl _ _
                    | exact ⟨Below.refl _ _, rfl⟩
                    | ((fail))
                intro K hK
                go_simp
                refine hK _ ?_
                clear hK K)
             | (apply bRow_step
                · go_simp; done
                · intro wg hg
                  (((obtain ⟨c0, c1, c2, c3, c4, c5, f0, f1, f2, f3, f4, f5, cl⟩ := (hg).tb.box.lay6
                     obtain ⟨k0, k1, kf0, kf1, kl⟩ := (hg).mm.lay2 0 rfl
                     obtain ⟨b0, b1, b2, b3, b4, b5, bf0, bf1, bf2, bf3, bf4, bf5, bl⟩ := (hg).mm.lay6 1 rfl); have hlk := look_g_run hg.tb (v, f); rw [← HG.out] at hlk))
                  go_simp
                  first
                    | exact rfl
                    | exact Below.refl _ _
                    | exact ⟨Below.refl _ _, rfl⟩
                    | ((fail))
                intro K hK
                go_simp
                refine hK _ ?_
                clear hK K)
             | (apply bRow_not
                · go_simp; done
                intro K hK
                go_simp
                refine hK _ ?_
                clear hK K)
    refine bRow_nil ?_
    refine sRow_entry_g _ _ rfl rfl rfl (v, f) rfl ?_
    intro s1 K hK
    go_simp
    refine hK _ ?_
    clear hK K
    refine sRow_same (.int .i64 s1) rfl ?_ ?_
    · intro wg hg
      go_simp
      exact Below.refl _ _
    intro K hK
    go_simp
    refine hK _ ?_
    clear hK K
    refine sRow_nil ?_
    intro w1 hE
    refine store_g _ _ _ rfl rfl rfl rfl (G + 1) (congrArg (Value.int .i64) HW.out) hE ?_
    clear hE
    intro w2 HS2
    obtain ⟨T2, hT2⟩ : ∃ T2 : Tb, T2 = { T with g := upd T.g (v, f) (G + 1) } := ⟨_, rfl⟩
    have HT2 := Lib.hid hT2
    rw [← hT2] at HS2
    clear hT2
    (obtain ⟨c0, c1, c2, c3, c4, c5, f0, f1, f2, f3, f4, f5, cl⟩ := (HS2.out).tb.box.lay6
     obtain ⟨k0, k1, kf0, kf1, kl⟩ := (HS2.out).mm.lay2 0 rfl
     obtain ⟨b0, b1, b2, b3, b4, b5, bf0, bf1, bf2, bf3, bf4, bf5, bl⟩ := (HS2.out).mm.lay6 1 rfl)
    have hlk := look_g_run HS2.out.drew.tb (v, f)
    rw [show T2.g (v, f) = G + 1 by rw [HT2.out]; exact upd_same _ _ _] at hlk
    have hlk2 : (Instr.lookup 64 (.map (some i.g)) (kv (v, f)) false).run Try.prog w2.drew = .ok (.int .i64 (G + 1)) w2.drew := hlk
    go_wp2
    go_still_tail 7, (by kernel_rfl)
    go_wp2
    clear hlk2 hlk c0 c1 c2 c3 c4 c5 f0 f1 f2 f3 f4 f5 cl k0 k1 kf0 kf1 kl b0 b1 b2 b3 b4 b5 bf0 bf1 bf2 bf3 bf4 bf5 bl
    have HS3 := Lib.hid (HS2.out.set 1 rfl 4 (.int .i64 (G + 1))).drew
    change Hid (St w i _ T2 (w2.setCell ⟨w.heap.size, 4, none⟩ (.int .i64 (G + 1))).drew) at HS3
    generalize (w2.setCell ⟨w.heap.size, 4, none⟩ (.int .i64 (G + 1))).drew = w3 at *
    (obtain ⟨c0, c1, c2, c3, c4, c5, f0, f1, f2, f3, f4, f5, cl⟩ := (HS3.out).tb.box.lay6
     obtain ⟨k0, k1, kf0, kf1, kl⟩ := (HS3.out).mm.lay2 0 rfl
     obtain ⟨b0, b1, b2, b3, b4, b5, bf0, bf1, bf2, bf3, bf4, bf5, bl⟩ := (HS3.out).mm.lay6 1 rfl)
    go_still_tail 6, (by kernel_rfl)
    first
      | refine put_m _ _ _ rfl rfl rfl (v, f) rfl ⟨v, f, d, x, G + 1, true⟩ rfl HS3.out.drew ?_
      | refine put_h _ _ _ rfl rfl rfl (v, f) rfl ⟨v, f, d, x, G + 1, false⟩ rfl HS3.out.drew ?_
    intro w4 HS4
    clear c0 c1 c2 c3 c4 c5 f0 f1 f2 f3 f4 f5 cl k0 k1 kf0 kf1 kl b0 b1 b2 b3 b4 b5 bf0 bf1 bf2 bf3 bf4 bf5 bl
    (obtain ⟨c0, c1, c2, c3, c4, c5, f0, f1, f2, f3, f4, f5, cl⟩ := (HS4.out).tb.box.lay6
     obtain ⟨k0, k1, kf0, kf1, kl⟩ := (HS4.out).mm.lay2 0 rfl
     obtain ⟨b0, b1, b2, b3, b4, b5, bf0, bf1, bf2, bf3, bf4, bf5, bl⟩ := (HS4.out).mm.lay6 1 rfl)
    go_wp2
    go_still_tail 10, (by kernel_rfl)
    refine put_u _ _ _ rfl rfl rfl (d, x) rfl ⟨v, f, d, x, G + 1, _⟩ rfl HS4.out.drew ?_
    intro w5 HS5
    clear c0 c1 c2 c3 c4 c5 f0 f1 f2 f3 f4 f5 cl k0 k1 kf0 kf1 kl b0 b1 b2 b3 b4 b5 bf0 bf1 bf2 bf3 bf4 bf5 bl
    (obtain ⟨c0, c1, c2, c3, c4, c5, f0, f1, f2, f3, f4, f5, cl⟩ := (HS5.out).tb.box.lay6
     obtain ⟨k0, k1, kf0, kf1, kl⟩ := (HS5.out).mm.lay2 0 rfl
     obtain ⟨b0, b1, b2, b3, b4, b5, bf0, bf1, bf2, bf3, bf4, bf5, bl⟩ := (HS5.out).mm.lay6 1 rfl)
    go_wp2
    go_ret
    refine ⟨rfl, ?_, HS5.out.mm.only⟩
    have := HS5.out.tb
    rw [HT2.out] at this
    rw [HG.out] at this
    exact this
end Go.Proofs.Ytnhpjmjinchamaa
