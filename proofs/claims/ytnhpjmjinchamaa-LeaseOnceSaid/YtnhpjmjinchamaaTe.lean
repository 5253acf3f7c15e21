/- The walks of end, Revoke and Commit. -/
import Derived.Test.YtnhpjmjinchamaaTd
set_option linter.unusedVariables false
set_option linter.unusedSimpArgs false
set_option linter.unnecessarySimpa false
namespace Go.Proofs.Ytnhpjmjinchamaa
open Go Go.RowKit Go.MapKept Go.ChangeMaps

def endF (T : Tb) (v f : Int) : (Ls × Int) × Tb :=
  if fragB v f then match T.m (v, f) with
    | none => ((noL, 110), T)
    | some l => ((l, 0), { T with m := upd T.m (v, f) none, u := upd T.u (l.drive, l.ext) none })
  else ((noL, 5), T)

set_option maxHeartbeats 1000000 in
theorem end_no {w : World} {i : Ids} {T : Tb} (h : TbAt w i T) (v f : Int) {n : Int} (hb : (fragB v f = false ∧ n = 5) ∨ (fragB v f = true ∧ T.m (v, f) = none ∧ n = 110)) : Calls Try.prog 39 #[i.ptr, .int .i64 v, .int .i64 f] w (Out w i T (.tuple #[lv noL, .int .i64 n])) := by
  have HS := Lib.hid ((St.start h).push _ (lc noL) 46 rfl)
  clear h
  rcases hb with ⟨h1, rfl⟩ | ⟨h1, h2, rfl⟩
  · have H1 := Lib.hid h1
    clear h1
    obtain ⟨c0, c1, c2, c3, c4, c5, f0, f1, f2, f3, f4, f5, cl⟩ := HS.out.mm.lay6 0 rfl
    go_enter Try.func39, Try.ntmps39
    go_wp2_with (first
      | (go_at_call 41; refine (frag_as H1.out _).mono ?_; rintro e w1 ⟨rfl, rfl⟩))
    exact bodyPost_ret (v := .tuple #[lv noL, .int .i64 5]) (by simp [results, Try.results39, go_sem]) rfl ⟨rfl, HS.out.tb, HS.out.mm.only⟩
  · have H1 := Lib.hid h1
    have H2 := Lib.hid (show (T.m (v, f)).getD noL = noL by rw [h2]; rfl)
    have H3 := Lib.hid (show (T.m (v, f)).isSome = false by rw [h2]; rfl)
    clear h1 h2
    go_enter Try.func39, Try.ntmps39
    go_wp2_with (first
      | (go_at_call 41; refine (frag_as H1.out _).mono ?_; rintro e w1 ⟨rfl, rfl⟩)
      | (go_at_call 40; refine (target_as HS.out.tb v f H2.out H3.out).mono ?_; rintro e w2 ⟨rfl, hb2⟩; have HS1 := Lib.hid (HS.out.call hb2); obtain ⟨c0, c1, c2, c3, c4, c5, f0, f1, f2, f3, f4, f5, cl⟩ := HS1.out.mm.lay6 0 rfl; clear hb2))
    clear c0 c1 c2 c3 c4 c5 f0 f1 f2 f3 f4 f5 cl
    have HS2 := (HS1.out.put6 0 rfl (.int .i64 0) (.int .i64 0) (.int .i64 0) (.int .i64 0) (.int .i64 0) (.bool false)).push w2.heap.size (lc noL) 46 (by simp)
    refine bodyPost_ret (v := .tuple #[lv noL, .int .i64 110]) ?_ rfl ⟨rfl, HS2.tb, HS2.mm.only⟩
    obtain ⟨c0, c1, c2, c3, c4, c5, -⟩ := HS2.mm.lay6 1 rfl
    simp [results, Try.results39, go_sem, c0, c1, c2, c3, c4, c5]

set_option maxHeartbeats 1000000 in
set_option maxRecDepth 20000 in
theorem end_yes {w : World} {i : Ids} {T : Tb} (h : TbAt w i T) (v f : Int) {l : Ls} (h1 : fragB v f = true) (h2 : T.m (v, f) = some l) : Calls Try.prog 39 #[i.ptr, .int .i64 v, .int .i64 f] w (Out w i { T with m := upd T.m (v, f) none, u := upd T.u (l.drive, l.ext) none } (.tuple #[lv l, .int .i64 0])) := by
  have HS := Lib.hid ((St.start h).push _ (lc noL) 46 rfl)
  have H1 := Lib.hid h1
  have H2 := Lib.hid (show (T.m (v, f)).getD noL = l by rw [h2]; rfl)
  have H3 := Lib.hid (show (T.m (v, f)).isSome = true by rw [h2]; rfl)
  clear h1 h2 h
  go_enter Try.func39, Try.ntmps39
  go_wp2_with (first
    | (go_at_call 41; refine (frag_as H1.out _).mono ?_; rintro e w1 ⟨rfl, rfl⟩)
    | (go_at_call 40; refine (target_as HS.out.tb v f H2.out H3.out).mono ?_; rintro e w2 ⟨rfl, hb2⟩; have HS1 := Lib.hid ((HS.out.call hb2).push w2.heap.size (lc l) 46 rfl); clear hb2; obtain ⟨c0, c1, c2, c3, c4, c5, -⟩ := HS1.out.tb.box.lay6)
    | (at_delete; refine drop_m _ _ rfl rfl rfl (v, f) rfl HS1.out ?_; intro w3 HS3; clear c0 c1 c2 c3 c4 c5))
  obtain ⟨c0, c1, c2, c3, c4, c5, -⟩ := HS3.out.tb.box.lay6
  obtain ⟨b0, b1, b2, b3, b4, b5, -⟩ := HS3.out.mm.lay6 0 rfl
  go_still_tail 9, (by kernel_rfl)
  refine drop_u _ _ rfl rfl rfl (l.drive, l.ext) rfl HS3.out.drew ?_
  intro w4 HS4
  clear c0 c1 c2 c3 c4 c5 b0 b1 b2 b3 b4 b5
  obtain ⟨b0, b1, b2, b3, b4, b5, -⟩ := HS4.out.mm.lay6 0 rfl
  obtain ⟨d0, d1, d2, d3, d4, d5, e0, e1, e2, e3, e4, e5, -⟩ := HS4.out.mm.lay6 1 rfl
  go_wp2
  have HS5 := HS4.out.put6 1 rfl (.int .i64 l.vol) (.int .i64 l.frag) (.int .i64 l.drive) (.int .i64 l.ext) (.int .i64 l.gen) (.bool l.mov)
  clear b0 b1 b2 b3 b4 b5 d0 d1 d2 d3 d4 d5 e0 e1 e2 e3 e4 e5
  refine bodyPost_ret (v := .tuple #[lv l, .int .i64 0]) ?_ rfl ⟨rfl, HS5.tb, HS5.mm.only⟩
  obtain ⟨c0, c1, c2, c3, c4, c5, -⟩ := HS5.mm.lay6 1 rfl
  simp [results, Try.results39, go_sem, c0, c1, c2, c3, c4, c5]

theorem end_any {w : World} {i : Ids} {T : Tb} (h : TbAt w i T) (v f : Int) : Calls Try.prog 39 #[i.ptr, .int .i64 v, .int .i64 f] w (Out w i (endF T v f).2 (.tuple #[lv (endF T v f).1.1, .int .i64 (endF T v f).1.2])) := by
  unfold endF
  cases h1 : fragB v f with
  | false => exact end_no h v f (.inl ⟨h1, rfl⟩)
  | true =>
    cases h2 : T.m (v, f) with
    | none => exact end_no h v f (.inr ⟨h1, h2, rfl⟩)
    | some l => exact end_yes h v f h1 h2

theorem end_as {w : World} {i : Ids} {T T' : Tb} (h : TbAt w i T) (v f : Int) {l : Ls} {n : Int} (he : endF T v f = ((l, n), T')) : Calls Try.prog 39 #[i.ptr, .int .i64 v, .int .i64 f] w (Out w i T' (.tuple #[lv l, .int .i64 n])) := by
  have := end_any h v f
  rw [he] at this
  exact this

theorem revoke_any {w : World} {i : Ids} {T : Tb} (h : TbAt w i T) (v f : Int) : Calls Try.prog 22 #[i.ptr, .int .i64 v, .int .i64 f] w (Out w i (endF T v f).2 (.tuple #[lv (endF T v f).1.1, .int .i64 (endF T v f).1.2])) := by
  obtain ⟨l, n, T', he⟩ : ∃ l n T', endF T v f = ((l, n), T') := ⟨_, _, _, rfl⟩
  rw [he]
  have HE := Lib.hid he
  have HS := Lib.hid (St.start h)
  clear h he
  have HS0 := Lib.hid (HS.out.push w.heap.size (lc noL) 46 rfl)
  go_enter Try.func22, Try.ntmps22
  go_wp2_with (go_at_call 39; refine (end_as HS0.out.tb v f HE.out).mono ?_; intro e w1 ho; have HS1 := Lib.hid (Out.st HS0.out ho).2; obtain ⟨rfl, -, -⟩ := ho; obtain ⟨d0, d1, d2, d3, d4, d5, e0, e1, e2, e3, e4, e5, -⟩ := HS1.out.mm.lay6 0 rfl)
  have HS5 := HS1.out.put6 0 rfl (.int .i64 l.vol) (.int .i64 l.frag) (.int .i64 l.drive) (.int .i64 l.ext) (.int .i64 l.gen) (.bool l.mov)
  clear d0 d1 d2 d3 d4 d5 e0 e1 e2 e3 e4 e5
  refine bodyPost_ret (v := .tuple #[lv l, .int .i64 n]) ?_ rfl ⟨rfl, HS5.tb, HS5.mm.only⟩
  obtain ⟨c0, c1, c2, c3, c4, c5, -⟩ := HS5.mm.lay6 0 rfl
  simp [results, Try.results22, go_sem, c0, c1, c2, c3, c4, c5]
end Go.Proofs.Ytnhpjmjinchamaa
