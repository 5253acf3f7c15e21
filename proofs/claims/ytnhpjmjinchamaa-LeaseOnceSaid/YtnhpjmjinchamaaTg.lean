/- The walk of Commit. -/
import Derived.Test.YtnhpjmjinchamaaTf
set_option linter.unusedVariables false
set_option linter.unusedSimpArgs false
set_option linter.unnecessarySimpa false
namespace Go.Proofs.Ytnhpjmjinchamaa
open Go Go.RowKit Go.MapKept Go.ChangeMaps

set_option maxHeartbeats 1000000 in
set_option maxRecDepth 20000 in
theorem commit_yes {w : World} {i : Ids} {T T1 : Tb} (h : TbAt w i T) (v f : Int) {l old : Ls} (he : endF T v f = ((l, 0), T1)) (ho : (T1.h (v, f)).getD noL = old) :
    Calls Try.prog 18 #[i.ptr, .int .i64 v, .int .i64 f] w (Out w i { T1 with h := upd T1.h (v, f) (some { l with mov := false }), u := upd (upd T1.u (old.drive, old.ext) none) (l.drive, l.ext) (some { l with mov := false }) } (.tuple #[lv old, .int .i64 0])) := by
  have HE := Lib.hid he
  have HO := Lib.hid ho
  have HS0 := Lib.hid ((St.start h).push w.heap.size (lc noL) 46 rfl)
  clear h he ho
  go_enter Try.func18, Try.ntmps18
  go_wp2_with (go_at_call 39; refine (end_as HS0.out.tb v f HE.out).mono ?_; intro e w1 ho; have HS1 := Lib.hid (Out.st HS0.out ho).2; obtain ⟨rfl, -, -⟩ := ho)
  have HS2 := Lib.hid ((HS1.out.push w1.heap.size (lc l) 46 rfl).push (w1.heap.size + 1) #[.int .i64 v, .int .i64 f] 70 (by simp))
  refine wp_region_late (St w i _ T1) 6 (by kernel_rfl) ?_ (St.stable _ _ _ _) HS2.out ?_
  · kernel_rfl
  simp only [List.take_succ_cons, List.take_zero, List.drop_succ_cons, List.drop_zero]
  repeat first
           | (apply bRow_plain
              · exact rfl
              · intro wg hg
                ((obtain ⟨c0, c1, c2, c3, c4, c5, f0, f1, f2, f3, f4, f5, cl⟩ := hg.tb.box.lay6; obtain ⟨k0, k1, -⟩ := hg.mm.lay2 0 rfl; have hlk := look_h_run hg.tb (v, f); rw [HO.out] at hlk))
                go_simp
                first
                  | exact rfl
                  | exact Below.refl _ _
                  | exact ⟨Below.refl _ _, rfl⟩
                  | ((fail))
              intro K hK
              go_simp
              refine hK _ ?_
              clear hK K)
           | (apply bRow_step
              · go_simp; done
              · intro wg hg
                ((obtain ⟨c0, c1, c2, c3, c4, c5, f0, f1, f2, f3, f4, f5, cl⟩ := hg.tb.box.lay6; obtain ⟨k0, k1, -⟩ := hg.mm.lay2 0 rfl; have hlk := look_h_run hg.tb (v, f); rw [HO.out] at hlk))
                go_simp
                first
                  | exact rfl
                  | exact Below.refl _ _
                  | exact ⟨Below.refl _ _, rfl⟩
                  | ((fail))
              intro K hK
              go_simp
              refine hK _ ?_
              clear hK K)
           | (apply bRow_not
              · go_simp; done
              intro K hK
              go_simp
              refine hK _ ?_
              clear hK K)
  refine bRow_nil ?_
  refine sRow_alloc_st (lc noL) 46 rfl ?_ ?_
  · intro w; go_simp
  intro bo K hK
  go_simp
  refine hK _ ?_
  clear hK K
  refine sRow_store_st (.int .i64 old.vol) (.int .i64 old.frag) (.int .i64 old.drive) (.int .i64 old.ext) (.int .i64 old.gen) (.bool old.mov) rfl ?_ ?_
  · intro w hw
    obtain ⟨d0, d1, d2, d3, d4, d5, e0, e1, e2, e3, e4, e5, -⟩ := hw.lay6
    go_simp
  intro K hK
  go_simp
  refine hK _ ?_
  clear hK K
  refine sRow_nil ?_
  intro w3 hS3
  have HS3 := Lib.hid hS3
  clear hS3
  obtain ⟨c0, c1, c2, c3, c4, c5, f0, f1, f2, f3, f4, f5, cl⟩ := HS3.out.tb.box.lay6
  obtain ⟨b0, b1, b2, b3, b4, b5, bf0, bf1, bf2, bf3, bf4, bf5, bl⟩ := HS3.out.mm.lay6 0 rfl
  go_wp2
  go_still_tail 9, (by kernel_rfl)
  refine drop_u _ _ rfl rfl rfl (old.drive, old.ext) rfl HS3.out.drew ?_
  intro w4 HS4
  clear c0 c1 c2 c3 c4 c5 f0 f1 f2 f3 f4 f5 cl b0 b1 b2 b3 b4 b5 bf0 bf1 bf2 bf3 bf4 bf5 bl
  obtain ⟨b0, b1, b2, b3, b4, b5, bf0, bf1, bf2, bf3, bf4, bf5, bl⟩ := HS4.out.mm.lay6 2 rfl
  go_wp2
  clear b0 b1 b2 b3 b4 b5 bf0 bf1 bf2 bf3 bf4 bf5 bl
  have HS5 := Lib.hid (HS4.out.set 2 rfl 5 (.bool false))
  change Hid (St w i _ _ (w4.setCell ⟨w1.heap.size, 5, none⟩ (.bool false))) at HS5
  generalize w4.setCell ⟨w1.heap.size, 5, none⟩ (.bool false) = w5 at *
  obtain ⟨T5, hT5⟩ : ∃ T5 : Tb, T5 = { T1 with u := upd T1.u (old.drive, old.ext) none } := ⟨_, rfl⟩
  have HT5 := Lib.hid hT5
  rw [← hT5] at HS5
  clear hT5
  refine wp_region_late_from (StA w i _) (St w i _ T5) 16 (by kernel_rfl) ?_ (St.stable _ _ _ _) (fun _ h => ⟨_, h⟩) HS5.out ?_
  · kernel_rfl
  simp only [List.take_succ_cons, List.take_zero, List.drop_succ_cons, List.drop_zero]
  repeat first
           | (apply bRow_plain
              · exact rfl
              · intro wg hg
                ((obtain ⟨TT, hT⟩ := hg; obtain ⟨c0, c1, c2, c3, c4, c5, f0, f1, f2, f3, f4, f5, cl⟩ := hT.tb.box.lay6; obtain ⟨k0, k1, -⟩ := hT.mm.lay2 1 rfl; obtain ⟨b0, b1, b2, b3, b4, b5, -⟩ := hT.mm.lay6 2 rfl))
                go_simp
                first
                  | exact rfl
                  | exact Below.refl _ _
                  | exact ⟨Below.refl _ _, rfl⟩
                  | ((fail))
              intro K hK
              go_simp
              refine hK _ ?_
              clear hK K)
           | (apply bRow_step
              · go_simp; done
              · intro wg hg
                ((obtain ⟨TT, hT⟩ := hg; obtain ⟨c0, c1, c2, c3, c4, c5, f0, f1, f2, f3, f4, f5, cl⟩ := hT.tb.box.lay6; obtain ⟨k0, k1, -⟩ := hT.mm.lay2 1 rfl; obtain ⟨b0, b1, b2, b3, b4, b5, -⟩ := hT.mm.lay6 2 rfl))
                go_simp
                first
                  | exact rfl
                  | exact Below.refl _ _
                  | exact ⟨Below.refl _ _, rfl⟩
                  | ((fail))
              intro K hK
              go_simp
              refine hK _ ?_
              clear hK K)
           | (apply bRow_not
              · go_simp; done
              intro K hK
              go_simp
              refine hK _ ?_
              clear hK K)
  refine bRow_nil ?_
  refine sRow_entry_h _ _ rfl rfl rfl (v, f) rfl ?_
  intro s1 K hK
  go_simp
  refine hK _ ?_
  clear hK K
  refine sRow_same (.int .i64 s1) rfl ?_ ?_
  · intro wg hg
    go_simp
    exact Below.refl _ _
  intro K hK
  go_simp
  refine hK _ ?_
  clear hK K
  refine sRow_estore_h _ _ _ rfl rfl rfl rfl { l with mov := false } rfl ?_
  intro K hK
  go_simp
  refine hK _ ?_
  clear hK K
  refine sRow_entry_u _ _ rfl rfl rfl (l.drive, l.ext) rfl ?_
  intro s2 K hK
  go_simp
  refine hK _ ?_
  clear hK K
  refine sRow_same (.int .i64 s2) rfl ?_ ?_
  · intro wg hg
    go_simp
    exact Below.refl _ _
  intro K hK
  go_simp
  refine hK _ ?_
  clear hK K
  refine sRow_estore_u _ _ _ rfl rfl rfl rfl { l with mov := false } rfl ?_
  intro K hK
  go_simp
  refine hK _ ?_
  clear hK K
  refine sRow_nil ?_
  intro w6 hS6
  have HS6 := Lib.hid hS6
  clear hS6
  obtain ⟨b0, b1, b2, b3, b4, b5, -⟩ := HS6.out.mm.lay6 0 rfl
  obtain ⟨d0, d1, d2, d3, d4, d5, e0, e1, e2, e3, e4, e5, el⟩ := HS6.out.mm.lay6 3 rfl
  go_wp2
  have HS7 := HS6.out.put6 3 rfl (.int .i64 old.vol) (.int .i64 old.frag) (.int .i64 old.drive) (.int .i64 old.ext) (.int .i64 old.gen) (.bool old.mov)
  clear b0 b1 b2 b3 b4 b5 d0 d1 d2 d3 d4 d5 e0 e1 e2 e3 e4 e5 el
  have htb := HS7.tb
  simp only [withH, withU, upd_upd, HT5.out] at htb
  refine bodyPost_ret (v := .tuple #[lv old, .int .i64 0]) ?_ rfl ⟨rfl, htb, HS7.mm.only⟩
  obtain ⟨c0, c1, c2, c3, c4, c5, -⟩ := HS7.mm.lay6 3 rfl
  simp [results, Try.results18, go_sem, c0, c1, c2, c3, c4, c5]

theorem commit_any {w : World} {i : Ids} {T : Tb} (h : TbAt w i T) (v f : Int) : Calls Try.prog 18 #[i.ptr, .int .i64 v, .int .i64 f] w (Out w i (commitF T v f).2 (.tuple #[lv (commitF T v f).1.1, .int .i64 (commitF T v f).1.2])) := by
  unfold commitF
  split
  · rename_i hn
    exact commit_yes h v f (l := (endF T v f).1.1) (by rw [← hn]) rfl
  · rename_i hn
    exact commit_no h v f (l := (endF T v f).1.1) rfl hn
end Go.Proofs.Ytnhpjmjinchamaa
