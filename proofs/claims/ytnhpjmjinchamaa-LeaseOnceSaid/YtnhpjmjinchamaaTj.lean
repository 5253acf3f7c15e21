/- The walk of awake. -/
import Derived.Test.YtnhpjmjinchamaaTi
import Derived.Test.YtnhpjmjinchamaaTg
set_option linter.unusedVariables false
set_option linter.unusedSimpArgs false
set_option linter.unnecessarySimpa false
namespace Go.Proofs.Ytnhpjmjinchamaa
open Go Go.RowKit Go.MapKept Go.ChangeMaps

theorem place_as {w : World} {i : Ids} {T T' : Tb} (h : TbAt w i T) (hs : Small T) {v f d x a b : Int} (he : placeF T v f d x = ((a, b), T')) : Calls Try.prog 23 #[i.ptr, .int .i64 v, .int .i64 f, .int .i64 d, .int .i64 x] w (Out w i T' (.tuple #[.int .i64 a, .int .i64 b])) := by
  have := place_any h hs v f d x
  rw [he] at this
  exact this
theorem grant_as {w : World} {i : Ids} {T T' : Tb} (h : TbAt w i T) (hs : Small T) {v f d x a b : Int} (he : grantF T v f d x = ((a, b), T')) : Calls Try.prog 21 #[i.ptr, .int .i64 v, .int .i64 f, .int .i64 d, .int .i64 x] w (Out w i T' (.tuple #[.int .i64 a, .int .i64 b])) := by
  have := grant_any h hs v f d x
  rw [he] at this
  exact this
theorem commit_as {w : World} {i : Ids} {T T' : Tb} (h : TbAt w i T) {v f : Int} {l : Ls} {b : Int} (he : commitF T v f = ((l, b), T')) : Calls Try.prog 18 #[i.ptr, .int .i64 v, .int .i64 f] w (Out w i T' (.tuple #[lv l, .int .i64 b])) := by
  have := commit_any h v f
  rw [he] at this
  exact this
theorem revoke_as {w : World} {i : Ids} {T T' : Tb} (h : TbAt w i T) {v f : Int} {l : Ls} {b : Int} (he : endF T v f = ((l, b), T')) : Calls Try.prog 22 #[i.ptr, .int .i64 v, .int .i64 f] w (Out w i T' (.tuple #[lv l, .int .i64 b])) := by
  have := revoke_any h v f
  rw [he] at this
  exact this
theorem adv_as {w : World} {i : Ids} {T T' : Tb} (h : TbAt w i T) {t n : Int} (he : advF T t = (n, T')) : Calls Try.prog 12 #[i.ptr, .int .i64 t] w (Out w i T' (.int .i64 n)) := by
  have := adv_any h t
  rw [he] at this
  exact this
theorem ver_as {w : World} {i : Ids} {T T' : Tb} (h : TbAt w i T) (h1 : 0 ≤ T.term) (h2 : T.term ≤ 1048575) (h3 : 0 ≤ T.count) (h4 : T.count ≤ 1048575) {a b : Int} (he : verF T = ((a, b), T')) : Calls Try.prog 13 #[i.ptr] w (Out w i T' (.tuple #[.int .i64 a, .int .i64 b])) := by
  have := ver_any h h1 h2 h3 h4
  rw [he] at this
  exact this
theorem judge_as {w : World} {i : Ids} {T : Tb} (h : TbAt w i T) {v f d n r : Int} (he : judgeF T v f d n = r) : Calls Try.prog 20 #[i.ptr, .int .i64 v, .int .i64 f, .int .i64 d, .int .i64 n] w fun e w' => e = .returned (.int .i64 r) ∧ Below w.heap.size w w' := he ▸ judge_any h v f d n
theorem free_as {w : World} {i : Ids} {T : Tb} (h : TbAt w i T) {d n r : Int} (he : FreeIs T.u d n r) : Calls Try.prog 24 #[i.ptr, .int .i64 d, .int .i64 n] w fun e w' => e = .returned (.int .i64 r) ∧ Below w.heap.size w w' :=
  (free_any h d n).mono fun e w' ⟨r', h1, h2, h3⟩ => by rw [he.uniq h2]; exact ⟨h1, h3⟩

def aw1 : Tb := (placeF noT 1 2 3 0).2
def aw2 : Tb := (grantF aw1 1 2 4 0).2
def aw3 : Tb := (commitF aw2 1 2).2
theorem aw_p : placeF noT 1 2 3 0 = ((1, 0), aw1) := by
  have : (placeF noT 1 2 3 0).1 = (1, 0) := by decide +kernel
  exact Prod.ext this rfl
theorem aw_g : grantF aw1 1 2 4 0 = ((2, 0), aw2) := by
  have : (grantF aw1 1 2 4 0).1 = (2, 0) := by decide +kernel
  exact Prod.ext this rfl
theorem aw_c : commitF aw2 1 2 = ((⟨1, 2, 3, 0, 1, false⟩, 0), aw3) := by
  have : (commitF aw2 1 2).1 = (⟨1, 2, 3, 0, 1, false⟩, 0) := by decide +kernel
  exact Prod.ext this rfl
theorem aw_j1 : judgeF aw3 1 2 4 2 = 1 := by decide +kernel
theorem aw_j2 : judgeF aw3 1 2 3 1 = 3 := by decide +kernel
theorem aw_j3 : judgeF aw3 1 2 3 3 = 4 := by decide +kernel
theorem aw_f : FreeIs aw3.u 3 2 0 := .inr ⟨by omega, by omega, by decide, by decide +kernel, fun e h1 h2 => by omega⟩
theorem small_no : Small noT := fun k => by simp [noT]
theorem addT_g (T : Tb) (l : Ls) : (addT T l).2.g = upd T.g (l.vol, l.frag) (T.g (l.vol, l.frag) + 1) := rfl
theorem small_upd {T : Tb} {N : Int} (h : ∀ k, 0 ≤ T.g k ∧ T.g k ≤ N) (k : Pk) : ∀ k', 0 ≤ upd T.g k (T.g k + 1) k' ∧ upd T.g k (T.g k + 1) k' ≤ N + 1 := fun k' => by
  unfold upd
  split
  · have := h k; omega
  · have := h k'; omega
theorem small_aw1 : Small aw1 := fun k => by
  have := small_upd (T := noT) (N := 0) (fun k => by simp [noT]) (1, 2) k
  show 0 ≤ upd noT.g (1, 2) (noT.g (1, 2) + 1) k ∧ upd noT.g (1, 2) (noT.g (1, 2) + 1) k ≤ _
  omega

set_option maxRecDepth 20000 in
set_option maxHeartbeats 2000000 in
theorem awake_any (w : World) : Calls Try.prog 10 #[] w fun e w' => e = .returned (.bool true) ∧ Below w.heap.size w w' := by
  go_enter Try.func10, Try.ntmps10
  go_wp2_with (first
    | (go_at_call 11; (with_reducible refine (new_any _).mono ?_); rintro e w1 ⟨i, rfl, hs, ht, hb⟩; have HS := Lib.hid (St.start ht); have HI := Lib.hid hs; have HB := Lib.hid hb; clear hs ht hb)
    | (go_at_call 23; (with_reducible refine (place_as HS.out.tb small_no aw_p).mono ?_); intro e w2 ho; have HS2 := Lib.hid (Out.st HS.out ho).2; obtain ⟨rfl, -, -⟩ := ho)
    | (go_at_call 21; (with_reducible refine (grant_as HS2.out.tb small_aw1 aw_g).mono ?_); intro e w3 ho; have HS3 := Lib.hid (Out.st HS2.out ho).2; obtain ⟨rfl, -, -⟩ := ho)
    | (go_at_call 18; (with_reducible refine (commit_as HS3.out.tb aw_c).mono ?_); intro e w4 ho; have HS4 := Lib.hid ((Out.st HS3.out ho).2.call (below_alloc _ (.cells (lc ⟨1, 2, 3, 0, 1, false⟩) 46))); obtain ⟨rfl, -, -⟩ := ho)
    | (go_at_call 20; (with_reducible refine (judge_as HS4.out.tb aw_j1).mono ?_); rintro e w5 ⟨rfl, hb⟩; have HS5 := Lib.hid (HS4.out.call hb); clear hb)
    | (go_at_call 20; (with_reducible refine (judge_as HS5.out.tb aw_j2).mono ?_); rintro e w6 ⟨rfl, hb⟩; have HS6 := Lib.hid (HS5.out.call hb); clear hb)
    | (go_at_call 20; (with_reducible refine (judge_as HS6.out.tb aw_j3).mono ?_); rintro e w7 ⟨rfl, hb⟩; have HS7 := Lib.hid (HS6.out.call hb); clear hb)
    | (go_at_call 24; (with_reducible refine (free_as HS7.out.tb aw_f).mono ?_); rintro e w8 ⟨rfl, hb⟩; have HS8 := Lib.hid (HS7.out.call hb); clear hb))
  go_ret
  exact ⟨rfl, HB.out.trans (HS8.out.mm.only.below HI.out HB.out.size)⟩
end Go.Proofs.Ytnhpjmjinchamaa
