/- do: a call on the queue and on its model. -/
import Derived.Test.YtgnmolleaengaaaGreatUk
import Derived.Test.YtgnmolleaengaaaGreatUh
set_option linter.unusedVariables false
set_option linter.unusedSimpArgs false
set_option linter.unnecessarySimpa false
namespace Go.Proofs.YtgnmolleaengaaaGreat
open Go Go.RowKit

/-- the two queues and the job's box -/
structure Du (n qb rb bj : Nat) (j : Jb) (pa : Option Addr) (pc : Nat) (qa : Option Addr) (qc : Nat) (w0 : World) (L M : List En) (wx : World) : Prop where
  q : Qp w0.heap.size qb n L wx
  r : Rq rb n M wx
  box : Holds wx bj (jc j (.slice pa (limb j.n).length pc) (.slice qa (limb j.d).length qc))
  tj : TyB wx bj 29
  num : Ru wx (.slice pa (limb j.n).length pc) (limb j.n)
  den : Ru wx (.slice qa (limb j.d).length qc) (limb j.d)
  hr : w0.heap.size ≤ rb
  below : Below w0.heap.size w0 wx
namespace Du
variable {n qb rb bj : Nat} {j : Jb} {pa qa : Option Addr} {pc qc : Nat} {w0 : World} {L L' M M' : List En} {wx wy : World}
theorem keep (h : Du n qb rb bj j pa pc qa qc w0 L M wx) (hb : Below wx.heap.size wx wy) : Du n qb rb bj j pa pc qa qc w0 L M wy :=
  ⟨h.q.keep hb, h.r.keep hb, h.box.keep hb, h.tj.keep hb, h.num.keep hb, h.den.keep hb, h.hr, h.below.trans (hb.mono h.below.size)⟩
theorem left (h : Du n qb rb bj j pa pc qa qc w0 L M wx) (hq : Qp w0.heap.size qb n L' wy) (ht : Qt w0.heap.size wx wy) : Du n qb rb bj j pa pc qa qc w0 L' M wy :=
  ⟨hq, h.r.qt ht, h.box.same ht.size (ht.block bj h.tj.lt (.inr ⟨fun q => absurd (q.uniq h.tj) (by decide), fun q => absurd (q.uniq h.tj) (by decide)⟩)), ht.ty _ 29 (by decide) h.tj, h.num.qt ht, h.den.qt ht, h.hr, h.below.trans (ht.below h.below.size)⟩
theorem right (h : Du n qb rb bj j pa pc qa qc w0 L M wx) (hr : Rq rb n M' wy) (ho : Only [rb] wx wy) : Du n qb rb bj j pa pc qa qc w0 L M' wy := by
  have h1 : bj ∉ [rb] := fun q => by have := h.tj; rw [List.mem_singleton.1 q] at this; exact absurd (this.uniq h.r.ty) (by decide)
  have h94 : ∀ s ∈ [rb], ∃ t, TyB wx s t ∧ t ≠ 94 := fun s hs => by rw [List.mem_singleton.1 hs]; exact ⟨71, h.r.ty, by decide⟩
  exact ⟨h.q.turn ho h.r.ty, hr, h.box.only ho h1, h.tj.same (ho.block bj h.tj.lt h1), h.num.only ho h94, h.den.only ho h94, h.hr, h.below.trans (ho.below (fun s hs => by rw [List.mem_singleton.1 hs]; exact h.hr) h.below.size)⟩
end Du

/-- alike, and in order -/
def Fin' (n : Nat) (L M : List En) : Prop := (∃ Sd, In2 n L Sd) ∧ L.map ab = M.map ab
theorem Fin'.len {n : Nat} {L M : List En} (h : Fin' n L M) : L.length ≤ 9 ∧ M.length ≤ 9 := by
  obtain ⟨⟨Sd, hi⟩, he⟩ := h
  have := hi.kd.len
  have := ab_len he
  omega

def DoPost (n qb rb : Nat) (w0 : World) (e : Ending) (w' : World) : Prop := e = .returned (.bool true) ∧ ∃ L' M', Fin' n L' M' ∧ Qp w0.heap.size qb n L' w' ∧ Rq rb n M' w' ∧ Below w0.heap.size w0 w'








set_option maxRecDepth 20000 in
set_option maxHeartbeats 8000000 in
theorem do_as {n qb rb : Nat} {w0 w : World} {L M : List En} (hq : Qp w0.heap.size qb n L w) (hr : Rq rb n M w) (hrb : w0.heap.size ≤ rb) (hb : Below w0.heap.size w0 w) (hf : Fin' n L M) (hn4 : n ≤ 4) (o : Opc) (ho : OkOp o) :
    Calls Tryz.prog 20 #[.pointer (some ⟨qb, 0, none⟩), .pointer (some ⟨rb, 0, none⟩), ov o] w (DoPost n qb rb w0) := by
  have HQ := Lib.hid hq
  have HR := Lib.hid hr
  have HRB := Lib.hid hrb
  have HB := Lib.hid hb
  have HF := Lib.hid hf
  have HB0 := Lib.hid (below_alloc w (.cells (oc o) 23))
  have HO := Lib.hid (Holds.new w (oc o) 23)
  have KJ : ∀ w, Hid (Calls Tryz.prog 7 #[ov o] w (JobPost w (jobF o))) := fun w => Lib.hid (job_any o ho w)
  have OKJ := Lib.hid (jobF_ok o)
  obtain ⟨j, hj⟩ : ∃ j, jobF o = j := ⟨_, rfl⟩
  rw [hj] at KJ OKJ
  have HLN := Lib.hid hf.len
  obtain ⟨⟨Sd, hin⟩, hab⟩ := hf
  have HIN := Lib.hid hin
  have HAB := Lib.hid hab
  obtain ⟨kd, ovo, ofr, ocl, ore, onu, ode⟩ := o
  obtain ⟨j1, j2, j3, j4, n1, d1⟩ := j
  clear hq hr hrb hb hj ho hin hab
  unfold DoPost
  obtain ⟨s0, s1, s2, s3, s4, s5, s6, -⟩ := HO.out.lay7
  by_cases h2 : kd = 2
  · have qk : (kd == 2) = true := by simpa using h2
    clear h2
    go_enter Tryz.func20, Tryz.ntmps20
    go_wp2_with (
                  go_at_call 7
                  (with_reducible refine (KJ _).out.mono ?_)
                  rintro e w2 ⟨pa, pc, qa, qc, rfl, r1, r2, hb⟩
                  have hx := below_alloc w2 (.cells (jc ⟨j1, j2, j3, j4, n1, d1⟩ (.slice pa (limb n1).length pc) (.slice qa (limb d1).length qc)) 29)
                  have hbb := hb.trans (hx.mono hb.size)
                  have HD := Lib.hid (show Du n qb rb w2.heap.size ⟨j1, j2, j3, j4, n1, d1⟩ pa pc qa qc w0 L M (w2.alloc (.cells (jc ⟨j1, j2, j3, j4, n1, d1⟩ (.slice pa (limb n1).length pc) (.slice qa (limb d1).length qc)) 29)) from
                    ⟨(HQ.out.keep HB0.out).keep hbb, (HR.out.keep HB0.out).keep hbb, Holds.new w2 _ 29, TyB.new w2 _ 29, r1.keep hx, r2.keep hx, HRB.out, (HB.out.trans (HB0.out.mono HB.out.size)).trans (hbb.mono (HB.out.trans (HB0.out.mono HB.out.size)).size)⟩)
                  have d0 := (hbb.cell (p := ⟨w.heap.size, 0, none⟩) HO.out.lt).trans s0
                  clear hb hx r1 r2 hbb s0 s1 s2 s3 s4 s5 s6)
    (
      clear d0 HB0 HO HQ HR HB KJ
      change Hid (Du n qb rb w2.heap.size ⟨j1, j2, j3, j4, n1, d1⟩ pa pc qa qc w0 L M (w2.alloc (.cells #[.int .i64 j1, .int .i64 j2, .int .i64 j3, .bool false, .slice pa (limb n1).length pc, .slice qa (limb d1).length qc, .int .i64 j4] 29))) at HD
      generalize w2.alloc (.cells #[.int .i64 j1, .int .i64 j2, .int .i64 j3, .bool false, .slice pa (limb n1).length pc, .slice qa (limb d1).length qc, .int .i64 j4] 29) = w3 at HD ⊢
      generalize w2.heap.size = bj at HD ⊢)
    rcases idxF_cases (j1, j2) L with hi | ⟨i, hi, hil⟩
    · obtain ⟨r, hr⟩ : ∃ r : Int, r = 110 := ⟨_, rfl⟩
      obtain ⟨P1, hP1⟩ : ∃ P : List En → List En → Prop, P = fun L' M' => L' = L ∧ M' = M := ⟨_, rfl⟩
      have KP : ∀ wz, Hid (Du n qb rb bj ⟨j1, j2, j3, j4, n1, d1⟩ pa pc qa qc w0 L M wz → Calls Tryz.prog 22 #[.pointer (some ⟨qb, 0, none⟩), kv (j1, j2)] wz fun e w' => e = .returned (.int .i64 r) ∧ ∃ L', P1 L' M ∧ Du n qb rb bj ⟨j1, j2, j3, j4, n1, d1⟩ pa pc qa qc w0 L' M w') := fun wz => Lib.hid fun h => (remove_no h.q (by have := HLN.out; omega) hi).mono (by
        rintro e w' ⟨rfl, hb⟩
        exact ⟨by rw [hr], L, by rw [hP1]; exact ⟨rfl, rfl⟩, h.keep hb⟩)
      have KR : ∀ wz L' M', Hid (P1 L' M' → Du n qb rb bj ⟨j1, j2, j3, j4, n1, d1⟩ pa pc qa qc w0 L' M' wz → Calls Tryz.prog 39 #[.pointer (some ⟨rb, 0, none⟩), kv (j1, j2)] wz fun e w' => e = .returned (.int .i64 r) ∧ ∃ M2, Fin' n L' M2 ∧ Du n qb rb bj ⟨j1, j2, j3, j4, n1, d1⟩ pa pc qa qc w0 L' M2 w') := fun wz L' M' => Lib.hid fun hp h => by
        rw [hP1] at hp
        obtain ⟨rfl, rfl⟩ := hp
        refine (rremove_no h.r (by have := HLN.out; omega) (by rw [ab_idx HAB.out]; exact hi)).mono ?_
        rintro e w' ⟨rfl, hb⟩
        exact ⟨by rw [hr], M', HF.out, h.keep hb⟩
      clear hr hP1 hi
      (
        refine wp_region_pick_tail (fun wx => Holds wx bj (jc ⟨j1, j2, j3, j4, n1, d1⟩ (.slice pa (limb n1).length pc) (.slice qa (limb d1).length qc))) (fun wx => ∃ L' M', (L' = L ∧ M' = M) ∧ Du n qb rb bj ⟨j1, j2, j3, j4, n1, d1⟩ pa pc qa qc w0 L' M' wx) [0, 1, 4, 5] 4 8 (by kernel_rfl) ?_ (fun _ _ ⟨L', M', h1, h2⟩ hb => ⟨L', M', h1, h2.keep hb⟩) (fun _ ⟨_, _, _, h⟩ => h.box) ⟨L, M, ⟨rfl, rfl⟩, HD.out⟩ ?_
        · kernel_rfl
        repeat (apply pRow_plain
                · exact rfl
                · exact rfl
                · intro wg hg
                  ((obtain ⟨s0, s1, s2, s3, s4, s5, s6, -⟩ := hg.lay7))
                  go_simp
                  first
                    | exact rfl
                    | exact Below.refl _ _
                    | exact ⟨Below.refl _ _, rfl⟩
                    | ((fail))
                intro K hK
                go_simp
                refine hK _ ?_
                clear hK K)
        refine pRow_nil ?_
        (
          refine lAnyL_step [2] ?_ (by simp) (by decide) ?_
          · kernel_rfl
          intro k hk
          obtain rfl : k = 2 := by simpa using hk
          refine lOp_call (kv (j1, j2)) rfl rfl (T' := fun wx => ∃ L' M', (fun L' M' => L' = L ∧ M' = M) L' M' ∧ Du n qb rb bj ⟨j1, j2, j3, j4, n1, d1⟩ pa pc qa qc w0 L' M' wx) (fun _ _ ⟨L', M', h1, h2⟩ hb => ⟨L', M', h1, h2.keep hb⟩) (fun _ ⟨_, _, _, h⟩ => h.box) ?_ ?_
          · rintro wg ⟨L', M', hp, hg⟩
            go_simp
            with_reducible refine (rkey_as ⟨j1, j2, j3, j4, n1, d1⟩ _ _ _ _ _ _ _).mono ?_
            rintro e w' ⟨rfl, hb⟩
            exact ⟨_, rfl, rfl, L', M', hp, hg.keep hb⟩
          go_simp)
        (
          refine lAnyL_step [3] ?_ (by simp) (by decide) ?_
          · kernel_rfl
          intro k hk
          obtain rfl : k = 3 := by simpa using hk
          refine lOp_call (.int .i64 r) rfl rfl (T' := fun wx => ∃ L' M', P1 L' M' ∧ Du n qb rb bj ⟨j1, j2, j3, j4, n1, d1⟩ pa pc qa qc w0 L' M' wx) (fun _ _ ⟨L', M', h1, h2⟩ hb => ⟨L', M', h1, h2.keep hb⟩) (fun _ ⟨_, _, _, h⟩ => h.box) ?_ ?_
          · rintro wg ⟨L', M', ⟨rfl, rfl⟩, hg⟩
            go_simp
            with_reducible refine ((KP _).out hg).mono ?_
            rintro e w' ⟨rfl, L2, h1, h2⟩
            exact ⟨_, rfl, rfl, L2, _, h1, h2⟩
          go_simp)
        (
          refine lAnyL_step [6] ?_ (by simp) (by decide) ?_
          · kernel_rfl
          intro k hk
          obtain rfl : k = 6 := by simpa using hk
          refine lOp_call (kv (j1, j2)) rfl rfl (T' := fun wx => ∃ L' M', P1 L' M' ∧ Du n qb rb bj ⟨j1, j2, j3, j4, n1, d1⟩ pa pc qa qc w0 L' M' wx) (fun _ _ ⟨L', M', h1, h2⟩ hb => ⟨L', M', h1, h2.keep hb⟩) (fun _ ⟨_, _, _, h⟩ => h.box) ?_ ?_
          · rintro wg ⟨L', M', hp, hg⟩
            go_simp
            with_reducible refine (rkey_as ⟨j1, j2, j3, j4, n1, d1⟩ _ _ _ _ _ _ _).mono ?_
            rintro e w' ⟨rfl, hb⟩
            exact ⟨_, rfl, rfl, L', M', hp, hg.keep hb⟩
          go_simp)
        (
          refine lAnyL_step [7] ?_ (by simp) (by decide) ?_
          · kernel_rfl
          intro k hk
          obtain rfl : k = 7 := by simpa using hk
          refine lOp_call (.int .i64 r) rfl rfl (T' := fun wx => ∃ L' M', Fin' n L' M' ∧ Du n qb rb bj ⟨j1, j2, j3, j4, n1, d1⟩ pa pc qa qc w0 L' M' wx) (fun _ _ ⟨L', M', h1, h2⟩ hb => ⟨L', M', h1, h2.keep hb⟩) (fun _ ⟨_, _, _, h⟩ => h.box) ?_ ?_
          · rintro wg ⟨L', M', hp, hg⟩
            go_simp
            with_reducible refine ((KR _ L' M').out hp hg).mono ?_
            rintro e w' ⟨rfl, M2, h1, h2⟩
            exact ⟨_, rfl, rfl, L', M2, h1, h2⟩
          go_simp
          refine ⟨?_, ?_⟩
          · kernel_rfl
          intro w9 hg9
          have H9 := Lib.hid hg9
          have hrr : (r == r) = true := by simp
          clear hg9
          go_wp2_with fail
          go_ret
          obtain ⟨L', M', h1, h2⟩ := H9.out
          exact ⟨rfl, L', M', h1, h2.q, h2.r, h2.below⟩))
    · obtain ⟨r, hr⟩ : ∃ r : Int, r = 0 := ⟨_, rfl⟩
      obtain ⟨x, hx, hxk⟩ := idxF_spec hi
      obtain ⟨P1, hP1⟩ : ∃ P : List En → List En → Prop, P = fun L' M' => L' = L.eraseIdx i ∧ M' = M := ⟨_, rfl⟩
      have KP : ∀ wz, Hid (Du n qb rb bj ⟨j1, j2, j3, j4, n1, d1⟩ pa pc qa qc w0 L M wz → Calls Tryz.prog 22 #[.pointer (some ⟨qb, 0, none⟩), kv (j1, j2)] wz fun e w' => e = .returned (.int .i64 r) ∧ ∃ L', P1 L' M ∧ Du n qb rb bj ⟨j1, j2, j3, j4, n1, d1⟩ pa pc qa qc w0 L' M w') := fun wz => Lib.hid fun h => (remove_yes h.q (by have := HLN.out; omega) hi).mono (by
        rintro e w' ⟨rfl, hq, ht⟩
        exact ⟨by rw [hr], _, by rw [hP1]; exact ⟨rfl, rfl⟩, h.left hq ht⟩)
      have KR : ∀ wz L' M', Hid (P1 L' M' → Du n qb rb bj ⟨j1, j2, j3, j4, n1, d1⟩ pa pc qa qc w0 L' M' wz → Calls Tryz.prog 39 #[.pointer (some ⟨rb, 0, none⟩), kv (j1, j2)] wz fun e w' => e = .returned (.int .i64 r) ∧ ∃ M2, Fin' n L' M2 ∧ Du n qb rb bj ⟨j1, j2, j3, j4, n1, d1⟩ pa pc qa qc w0 L' M2 w') := fun wz L' M' => Lib.hid fun hp h => by
        rw [hP1] at hp
        obtain ⟨rfl, rfl⟩ := hp
        refine (rremove_yes h.r (by have := HLN.out; omega) (by rw [ab_idx HAB.out]; exact hi)).mono ?_
        rintro e w' ⟨rfl, hq, ho⟩
        exact ⟨by rw [hr], _, ⟨⟨_, HIN.out.remove hx hxk⟩, ab_erase HAB.out i⟩, h.right hq ho⟩
      clear hr hP1 hi hx hxk
      (
        refine wp_region_pick_tail (fun wx => Holds wx bj (jc ⟨j1, j2, j3, j4, n1, d1⟩ (.slice pa (limb n1).length pc) (.slice qa (limb d1).length qc))) (fun wx => ∃ L' M', (L' = L ∧ M' = M) ∧ Du n qb rb bj ⟨j1, j2, j3, j4, n1, d1⟩ pa pc qa qc w0 L' M' wx) [0, 1, 4, 5] 4 8 (by kernel_rfl) ?_ (fun _ _ ⟨L', M', h1, h2⟩ hb => ⟨L', M', h1, h2.keep hb⟩) (fun _ ⟨_, _, _, h⟩ => h.box) ⟨L, M, ⟨rfl, rfl⟩, HD.out⟩ ?_
        · kernel_rfl
        repeat (apply pRow_plain
                · exact rfl
                · exact rfl
                · intro wg hg
                  ((obtain ⟨s0, s1, s2, s3, s4, s5, s6, -⟩ := hg.lay7))
                  go_simp
                  first
                    | exact rfl
                    | exact Below.refl _ _
                    | exact ⟨Below.refl _ _, rfl⟩
                    | ((fail))
                intro K hK
                go_simp
                refine hK _ ?_
                clear hK K)
        refine pRow_nil ?_
        (
          refine lAnyL_step [2] ?_ (by simp) (by decide) ?_
          · kernel_rfl
          intro k hk
          obtain rfl : k = 2 := by simpa using hk
          refine lOp_call (kv (j1, j2)) rfl rfl (T' := fun wx => ∃ L' M', (fun L' M' => L' = L ∧ M' = M) L' M' ∧ Du n qb rb bj ⟨j1, j2, j3, j4, n1, d1⟩ pa pc qa qc w0 L' M' wx) (fun _ _ ⟨L', M', h1, h2⟩ hb => ⟨L', M', h1, h2.keep hb⟩) (fun _ ⟨_, _, _, h⟩ => h.box) ?_ ?_
          · rintro wg ⟨L', M', hp, hg⟩
            go_simp
            with_reducible refine (rkey_as ⟨j1, j2, j3, j4, n1, d1⟩ _ _ _ _ _ _ _).mono ?_
            rintro e w' ⟨rfl, hb⟩
            exact ⟨_, rfl, rfl, L', M', hp, hg.keep hb⟩
          go_simp)
        (
          refine lAnyL_step [3] ?_ (by simp) (by decide) ?_
          · kernel_rfl
          intro k hk
          obtain rfl : k = 3 := by simpa using hk
          refine lOp_call (.int .i64 r) rfl rfl (T' := fun wx => ∃ L' M', P1 L' M' ∧ Du n qb rb bj ⟨j1, j2, j3, j4, n1, d1⟩ pa pc qa qc w0 L' M' wx) (fun _ _ ⟨L', M', h1, h2⟩ hb => ⟨L', M', h1, h2.keep hb⟩) (fun _ ⟨_, _, _, h⟩ => h.box) ?_ ?_
          · rintro wg ⟨L', M', ⟨rfl, rfl⟩, hg⟩
            go_simp
            with_reducible refine ((KP _).out hg).mono ?_
            rintro e w' ⟨rfl, L2, h1, h2⟩
            exact ⟨_, rfl, rfl, L2, _, h1, h2⟩
          go_simp)
        (
          refine lAnyL_step [6] ?_ (by simp) (by decide) ?_
          · kernel_rfl
          intro k hk
          obtain rfl : k = 6 := by simpa using hk
          refine lOp_call (kv (j1, j2)) rfl rfl (T' := fun wx => ∃ L' M', P1 L' M' ∧ Du n qb rb bj ⟨j1, j2, j3, j4, n1, d1⟩ pa pc qa qc w0 L' M' wx) (fun _ _ ⟨L', M', h1, h2⟩ hb => ⟨L', M', h1, h2.keep hb⟩) (fun _ ⟨_, _, _, h⟩ => h.box) ?_ ?_
          · rintro wg ⟨L', M', hp, hg⟩
            go_simp
            with_reducible refine (rkey_as ⟨j1, j2, j3, j4, n1, d1⟩ _ _ _ _ _ _ _).mono ?_
            rintro e w' ⟨rfl, hb⟩
            exact ⟨_, rfl, rfl, L', M', hp, hg.keep hb⟩
          go_simp)
        (
          refine lAnyL_step [7] ?_ (by simp) (by decide) ?_
          · kernel_rfl
          intro k hk
          obtain rfl : k = 7 := by simpa using hk
          refine lOp_call (.int .i64 r) rfl rfl (T' := fun wx => ∃ L' M', Fin' n L' M' ∧ Du n qb rb bj ⟨j1, j2, j3, j4, n1, d1⟩ pa pc qa qc w0 L' M' wx) (fun _ _ ⟨L', M', h1, h2⟩ hb => ⟨L', M', h1, h2.keep hb⟩) (fun _ ⟨_, _, _, h⟩ => h.box) ?_ ?_
          · rintro wg ⟨L', M', hp, hg⟩
            go_simp
            with_reducible refine ((KR _ L' M').out hp hg).mono ?_
            rintro e w' ⟨rfl, M2, h1, h2⟩
            exact ⟨_, rfl, rfl, L', M2, h1, h2⟩
          go_simp
          refine ⟨?_, ?_⟩
          · kernel_rfl
          intro w9 hg9
          have H9 := Lib.hid hg9
          have hrr : (r == r) = true := by simp
          clear hg9
          go_wp2_with fail
          go_ret
          obtain ⟨L', M', h1, h2⟩ := H9.out
          exact ⟨rfl, L', M', h1, h2.q, h2.r, h2.below⟩))
  have q2 : (kd == 2) = false := by simpa using h2
  clear h2
  by_cases h3 : kd = 3
  · have q3 : (kd == 3) = true := by simpa using h3
    clear h3
    go_enter Tryz.func20, Tryz.ntmps20
    go_wp2_with (
                  go_at_call 7
                  (with_reducible refine (KJ _).out.mono ?_)
                  rintro e w2 ⟨pa, pc, qa, qc, rfl, r1, r2, hb⟩
                  have hx := below_alloc w2 (.cells (jc ⟨j1, j2, j3, j4, n1, d1⟩ (.slice pa (limb n1).length pc) (.slice qa (limb d1).length qc)) 29)
                  have hbb := hb.trans (hx.mono hb.size)
                  have HD := Lib.hid (show Du n qb rb w2.heap.size ⟨j1, j2, j3, j4, n1, d1⟩ pa pc qa qc w0 L M (w2.alloc (.cells (jc ⟨j1, j2, j3, j4, n1, d1⟩ (.slice pa (limb n1).length pc) (.slice qa (limb d1).length qc)) 29)) from
                    ⟨(HQ.out.keep HB0.out).keep hbb, (HR.out.keep HB0.out).keep hbb, Holds.new w2 _ 29, TyB.new w2 _ 29, r1.keep hx, r2.keep hx, HRB.out, (HB.out.trans (HB0.out.mono HB.out.size)).trans (hbb.mono (HB.out.trans (HB0.out.mono HB.out.size)).size)⟩)
                  have d0 := (hbb.cell (p := ⟨w.heap.size, 0, none⟩) HO.out.lt).trans s0
                  clear hb hx r1 r2 hbb s0 s1 s2 s3 s4 s5 s6)
    (
      clear d0 HB0 HO HQ HR HB KJ
      change Hid (Du n qb rb w2.heap.size ⟨j1, j2, j3, j4, n1, d1⟩ pa pc qa qc w0 L M (w2.alloc (.cells #[.int .i64 j1, .int .i64 j2, .int .i64 j3, .bool false, .slice pa (limb n1).length pc, .slice qa (limb d1).length qc, .int .i64 j4] 29))) at HD
      generalize w2.alloc (.cells #[.int .i64 j1, .int .i64 j2, .int .i64 j3, .bool false, .slice pa (limb n1).length pc, .slice qa (limb d1).length qc, .int .i64 j4] 29) = w3 at HD ⊢
      generalize w2.heap.size = bj at HD ⊢)
    rcases idxF_cases (j1, j2) L with hi | ⟨i, hi, hil⟩
    · obtain ⟨r, hr⟩ : ∃ r : Int, r = 110 := ⟨_, rfl⟩
      obtain ⟨P1, hP1⟩ : ∃ P : List En → List En → Prop, P = fun L' M' => L' = L ∧ M' = M := ⟨_, rfl⟩
      have KP : ∀ wz, Hid (Du n qb rb bj ⟨j1, j2, j3, j4, n1, d1⟩ pa pc qa qc w0 L M wz → Calls Tryz.prog 23 #[.pointer (some ⟨qb, 0, none⟩), kv (j1, j2)] wz fun e w' => e = .returned (.int .i64 r) ∧ ∃ L', P1 L' M ∧ Du n qb rb bj ⟨j1, j2, j3, j4, n1, d1⟩ pa pc qa qc w0 L' M w') := fun wz => Lib.hid fun h => (held_no h.q (by have := HLN.out; omega) hi).mono (by
        rintro e w' ⟨rfl, hb⟩
        exact ⟨by rw [hr], L, by rw [hP1]; exact ⟨rfl, rfl⟩, h.keep hb⟩)
      have KR : ∀ wz L' M', Hid (P1 L' M' → Du n qb rb bj ⟨j1, j2, j3, j4, n1, d1⟩ pa pc qa qc w0 L' M' wz → Calls Tryz.prog 40 #[.pointer (some ⟨rb, 0, none⟩), kv (j1, j2)] wz fun e w' => e = .returned (.int .i64 r) ∧ ∃ M2, Fin' n L' M2 ∧ Du n qb rb bj ⟨j1, j2, j3, j4, n1, d1⟩ pa pc qa qc w0 L' M2 w') := fun wz L' M' => Lib.hid fun hp h => by
        rw [hP1] at hp
        obtain ⟨rfl, rfl⟩ := hp
        refine (rheld_no h.r (by have := HLN.out; omega) (by rw [ab_idx HAB.out]; exact hi)).mono ?_
        rintro e w' ⟨rfl, hb⟩
        exact ⟨by rw [hr], M', HF.out, h.keep hb⟩
      clear hr hP1 hi
      (
        refine wp_region_pick_tail (fun wx => Holds wx bj (jc ⟨j1, j2, j3, j4, n1, d1⟩ (.slice pa (limb n1).length pc) (.slice qa (limb d1).length qc))) (fun wx => ∃ L' M', (L' = L ∧ M' = M) ∧ Du n qb rb bj ⟨j1, j2, j3, j4, n1, d1⟩ pa pc qa qc w0 L' M' wx) [0, 1, 4, 5] 4 8 (by kernel_rfl) ?_ (fun _ _ ⟨L', M', h1, h2⟩ hb => ⟨L', M', h1, h2.keep hb⟩) (fun _ ⟨_, _, _, h⟩ => h.box) ⟨L, M, ⟨rfl, rfl⟩, HD.out⟩ ?_
        · kernel_rfl
        repeat (apply pRow_plain
                · exact rfl
                · exact rfl
                · intro wg hg
                  ((obtain ⟨s0, s1, s2, s3, s4, s5, s6, -⟩ := hg.lay7))
                  go_simp
                  first
                    | exact rfl
                    | exact Below.refl _ _
                    | exact ⟨Below.refl _ _, rfl⟩
                    | ((fail))
                intro K hK
                go_simp
                refine hK _ ?_
                clear hK K)
        refine pRow_nil ?_
        (
          refine lAnyL_step [2] ?_ (by simp) (by decide) ?_
          · kernel_rfl
          intro k hk
          obtain rfl : k = 2 := by simpa using hk
          refine lOp_call (kv (j1, j2)) rfl rfl (T' := fun wx => ∃ L' M', (fun L' M' => L' = L ∧ M' = M) L' M' ∧ Du n qb rb bj ⟨j1, j2, j3, j4, n1, d1⟩ pa pc qa qc w0 L' M' wx) (fun _ _ ⟨L', M', h1, h2⟩ hb => ⟨L', M', h1, h2.keep hb⟩) (fun _ ⟨_, _, _, h⟩ => h.box) ?_ ?_
          · rintro wg ⟨L', M', hp, hg⟩
            go_simp
            with_reducible refine (rkey_as ⟨j1, j2, j3, j4, n1, d1⟩ _ _ _ _ _ _ _).mono ?_
            rintro e w' ⟨rfl, hb⟩
            exact ⟨_, rfl, rfl, L', M', hp, hg.keep hb⟩
          go_simp)
        (
          refine lAnyL_step [3] ?_ (by simp) (by decide) ?_
          · kernel_rfl
          intro k hk
          obtain rfl : k = 3 := by simpa using hk
          refine lOp_call (.int .i64 r) rfl rfl (T' := fun wx => ∃ L' M', P1 L' M' ∧ Du n qb rb bj ⟨j1, j2, j3, j4, n1, d1⟩ pa pc qa qc w0 L' M' wx) (fun _ _ ⟨L', M', h1, h2⟩ hb => ⟨L', M', h1, h2.keep hb⟩) (fun _ ⟨_, _, _, h⟩ => h.box) ?_ ?_
          · rintro wg ⟨L', M', ⟨rfl, rfl⟩, hg⟩
            go_simp
            with_reducible refine ((KP _).out hg).mono ?_
            rintro e w' ⟨rfl, L2, h1, h2⟩
            exact ⟨_, rfl, rfl, L2, _, h1, h2⟩
          go_simp)
        (
          refine lAnyL_step [6] ?_ (by simp) (by decide) ?_
          · kernel_rfl
          intro k hk
          obtain rfl : k = 6 := by simpa using hk
          refine lOp_call (kv (j1, j2)) rfl rfl (T' := fun wx => ∃ L' M', P1 L' M' ∧ Du n qb rb bj ⟨j1, j2, j3, j4, n1, d1⟩ pa pc qa qc w0 L' M' wx) (fun _ _ ⟨L', M', h1, h2⟩ hb => ⟨L', M', h1, h2.keep hb⟩) (fun _ ⟨_, _, _, h⟩ => h.box) ?_ ?_
          · rintro wg ⟨L', M', hp, hg⟩
            go_simp
            with_reducible refine (rkey_as ⟨j1, j2, j3, j4, n1, d1⟩ _ _ _ _ _ _ _).mono ?_
            rintro e w' ⟨rfl, hb⟩
            exact ⟨_, rfl, rfl, L', M', hp, hg.keep hb⟩
          go_simp)
        (
          refine lAnyL_step [7] ?_ (by simp) (by decide) ?_
          · kernel_rfl
          intro k hk
          obtain rfl : k = 7 := by simpa using hk
          refine lOp_call (.int .i64 r) rfl rfl (T' := fun wx => ∃ L' M', Fin' n L' M' ∧ Du n qb rb bj ⟨j1, j2, j3, j4, n1, d1⟩ pa pc qa qc w0 L' M' wx) (fun _ _ ⟨L', M', h1, h2⟩ hb => ⟨L', M', h1, h2.keep hb⟩) (fun _ ⟨_, _, _, h⟩ => h.box) ?_ ?_
          · rintro wg ⟨L', M', hp, hg⟩
            go_simp
            with_reducible refine ((KR _ L' M').out hp hg).mono ?_
            rintro e w' ⟨rfl, M2, h1, h2⟩
            exact ⟨_, rfl, rfl, L', M2, h1, h2⟩
          go_simp
          refine ⟨?_, ?_⟩
          · kernel_rfl
          intro w9 hg9
          have H9 := Lib.hid hg9
          have hrr : (r == r) = true := by simp
          clear hg9
          go_wp2_with fail
          go_ret
          obtain ⟨L', M', h1, h2⟩ := H9.out
          exact ⟨rfl, L', M', h1, h2.q, h2.r, h2.below⟩))
    · obtain ⟨x, hx, hxk⟩ := idxF_spec hi
      obtain ⟨y, hy, hyx⟩ := ab_get HAB.out hx
      have hyr : y.run = x.run := congrArg (fun a : Jb × Bool × Bool => a.2.1) hyx
      cases hxr : x.run with
      | false =>
        obtain ⟨r, hr⟩ : ∃ r : Int, r = 110 := ⟨_, rfl⟩
        obtain ⟨P1, hP1⟩ : ∃ P : List En → List En → Prop, P = fun L' M' => L' = L ∧ M' = M := ⟨_, rfl⟩
        have KP : ∀ wz, Hid (Du n qb rb bj ⟨j1, j2, j3, j4, n1, d1⟩ pa pc qa qc w0 L M wz → Calls Tryz.prog 23 #[.pointer (some ⟨qb, 0, none⟩), kv (j1, j2)] wz fun e w' => e = .returned (.int .i64 r) ∧ ∃ L', P1 L' M ∧ Du n qb rb bj ⟨j1, j2, j3, j4, n1, d1⟩ pa pc qa qc w0 L' M w') := fun wz => Lib.hid fun h => (held_off h.q (by have := HLN.out; omega) hi hx hxr).mono (by
          rintro e w' ⟨rfl, hb⟩
          exact ⟨by rw [hr], L, by rw [hP1]; exact ⟨rfl, rfl⟩, h.keep hb⟩)
        have KR : ∀ wz L' M', Hid (P1 L' M' → Du n qb rb bj ⟨j1, j2, j3, j4, n1, d1⟩ pa pc qa qc w0 L' M' wz → Calls Tryz.prog 40 #[.pointer (some ⟨rb, 0, none⟩), kv (j1, j2)] wz fun e w' => e = .returned (.int .i64 r) ∧ ∃ M2, Fin' n L' M2 ∧ Du n qb rb bj ⟨j1, j2, j3, j4, n1, d1⟩ pa pc qa qc w0 L' M2 w') := fun wz L' M' => Lib.hid fun hp h => by
          rw [hP1] at hp
          obtain ⟨rfl, rfl⟩ := hp
          refine (rheld_off h.r (by have := HLN.out; omega) (by rw [ab_idx HAB.out]; exact hi) hy (hyr.trans hxr)).mono ?_
          rintro e w' ⟨rfl, hb⟩
          exact ⟨by rw [hr], M', HF.out, h.keep hb⟩
        clear hr hP1 hi hx hxk hy hyx hyr hxr
        (
          refine wp_region_pick_tail (fun wx => Holds wx bj (jc ⟨j1, j2, j3, j4, n1, d1⟩ (.slice pa (limb n1).length pc) (.slice qa (limb d1).length qc))) (fun wx => ∃ L' M', (L' = L ∧ M' = M) ∧ Du n qb rb bj ⟨j1, j2, j3, j4, n1, d1⟩ pa pc qa qc w0 L' M' wx) [0, 1, 4, 5] 4 8 (by kernel_rfl) ?_ (fun _ _ ⟨L', M', h1, h2⟩ hb => ⟨L', M', h1, h2.keep hb⟩) (fun _ ⟨_, _, _, h⟩ => h.box) ⟨L, M, ⟨rfl, rfl⟩, HD.out⟩ ?_
          · kernel_rfl
          repeat (apply pRow_plain
                  · exact rfl
                  · exact rfl
                  · intro wg hg
                    ((obtain ⟨s0, s1, s2, s3, s4, s5, s6, -⟩ := hg.lay7))
                    go_simp
                    first
                      | exact rfl
                      | exact Below.refl _ _
                      | exact ⟨Below.refl _ _, rfl⟩
                      | ((fail))
                  intro K hK
                  go_simp
                  refine hK _ ?_
                  clear hK K)
          refine pRow_nil ?_
          (
            refine lAnyL_step [2] ?_ (by simp) (by decide) ?_
            · kernel_rfl
            intro k hk
            obtain rfl : k = 2 := by simpa using hk
            refine lOp_call (kv (j1, j2)) rfl rfl (T' := fun wx => ∃ L' M', (fun L' M' => L' = L ∧ M' = M) L' M' ∧ Du n qb rb bj ⟨j1, j2, j3, j4, n1, d1⟩ pa pc qa qc w0 L' M' wx) (fun _ _ ⟨L', M', h1, h2⟩ hb => ⟨L', M', h1, h2.keep hb⟩) (fun _ ⟨_, _, _, h⟩ => h.box) ?_ ?_
            · rintro wg ⟨L', M', hp, hg⟩
              go_simp
              with_reducible refine (rkey_as ⟨j1, j2, j3, j4, n1, d1⟩ _ _ _ _ _ _ _).mono ?_
              rintro e w' ⟨rfl, hb⟩
              exact ⟨_, rfl, rfl, L', M', hp, hg.keep hb⟩
            go_simp)
          (
            refine lAnyL_step [3] ?_ (by simp) (by decide) ?_
            · kernel_rfl
            intro k hk
            obtain rfl : k = 3 := by simpa using hk
            refine lOp_call (.int .i64 r) rfl rfl (T' := fun wx => ∃ L' M', P1 L' M' ∧ Du n qb rb bj ⟨j1, j2, j3, j4, n1, d1⟩ pa pc qa qc w0 L' M' wx) (fun _ _ ⟨L', M', h1, h2⟩ hb => ⟨L', M', h1, h2.keep hb⟩) (fun _ ⟨_, _, _, h⟩ => h.box) ?_ ?_
            · rintro wg ⟨L', M', ⟨rfl, rfl⟩, hg⟩
              go_simp
              with_reducible refine ((KP _).out hg).mono ?_
              rintro e w' ⟨rfl, L2, h1, h2⟩
              exact ⟨_, rfl, rfl, L2, _, h1, h2⟩
            go_simp)
          (
            refine lAnyL_step [6] ?_ (by simp) (by decide) ?_
            · kernel_rfl
            intro k hk
            obtain rfl : k = 6 := by simpa using hk
            refine lOp_call (kv (j1, j2)) rfl rfl (T' := fun wx => ∃ L' M', P1 L' M' ∧ Du n qb rb bj ⟨j1, j2, j3, j4, n1, d1⟩ pa pc qa qc w0 L' M' wx) (fun _ _ ⟨L', M', h1, h2⟩ hb => ⟨L', M', h1, h2.keep hb⟩) (fun _ ⟨_, _, _, h⟩ => h.box) ?_ ?_
            · rintro wg ⟨L', M', hp, hg⟩
              go_simp
              with_reducible refine (rkey_as ⟨j1, j2, j3, j4, n1, d1⟩ _ _ _ _ _ _ _).mono ?_
              rintro e w' ⟨rfl, hb⟩
              exact ⟨_, rfl, rfl, L', M', hp, hg.keep hb⟩
            go_simp)
          (
            refine lAnyL_step [7] ?_ (by simp) (by decide) ?_
            · kernel_rfl
            intro k hk
            obtain rfl : k = 7 := by simpa using hk
            refine lOp_call (.int .i64 r) rfl rfl (T' := fun wx => ∃ L' M', Fin' n L' M' ∧ Du n qb rb bj ⟨j1, j2, j3, j4, n1, d1⟩ pa pc qa qc w0 L' M' wx) (fun _ _ ⟨L', M', h1, h2⟩ hb => ⟨L', M', h1, h2.keep hb⟩) (fun _ ⟨_, _, _, h⟩ => h.box) ?_ ?_
            · rintro wg ⟨L', M', hp, hg⟩
              go_simp
              with_reducible refine ((KR _ L' M').out hp hg).mono ?_
              rintro e w' ⟨rfl, M2, h1, h2⟩
              exact ⟨_, rfl, rfl, L', M2, h1, h2⟩
            go_simp
            refine ⟨?_, ?_⟩
            · kernel_rfl
            intro w9 hg9
            have H9 := Lib.hid hg9
            have hrr : (r == r) = true := by simp
            clear hg9
            go_wp2_with fail
            go_ret
            obtain ⟨L', M', h1, h2⟩ := H9.out
            exact ⟨rfl, L', M', h1, h2.q, h2.r, h2.below⟩))
      | true =>
        obtain ⟨r, hr⟩ : ∃ r : Int, r = 0 := ⟨_, rfl⟩
        obtain ⟨P1, hP1⟩ : ∃ P : List En → List En → Prop, P = fun L' M' => L' = L.set i { x with held := true } ∧ M' = M := ⟨_, rfl⟩
        have KP : ∀ wz, Hid (Du n qb rb bj ⟨j1, j2, j3, j4, n1, d1⟩ pa pc qa qc w0 L M wz → Calls Tryz.prog 23 #[.pointer (some ⟨qb, 0, none⟩), kv (j1, j2)] wz fun e w' => e = .returned (.int .i64 r) ∧ ∃ L', P1 L' M ∧ Du n qb rb bj ⟨j1, j2, j3, j4, n1, d1⟩ pa pc qa qc w0 L' M w') := fun wz => Lib.hid fun h => (held_on h.q (by have := HLN.out; omega) hi hx hxr).mono (by
          rintro e w' ⟨rfl, hq, ht⟩
          exact ⟨by rw [hr], _, by rw [hP1]; exact ⟨rfl, rfl⟩, h.left hq ht⟩)
        have KR : ∀ wz L' M', Hid (P1 L' M' → Du n qb rb bj ⟨j1, j2, j3, j4, n1, d1⟩ pa pc qa qc w0 L' M' wz → Calls Tryz.prog 40 #[.pointer (some ⟨rb, 0, none⟩), kv (j1, j2)] wz fun e w' => e = .returned (.int .i64 r) ∧ ∃ M2, Fin' n L' M2 ∧ Du n qb rb bj ⟨j1, j2, j3, j4, n1, d1⟩ pa pc qa qc w0 L' M2 w') := fun wz L' M' => Lib.hid fun hp h => by
          rw [hP1] at hp
          obtain ⟨rfl, rfl⟩ := hp
          refine (rheld_on h.r (by have := HLN.out; omega) (by rw [ab_idx HAB.out]; exact hi) hy (hyr.trans hxr)).mono ?_
          rintro e w' ⟨rfl, hq, ho⟩
          exact ⟨by rw [hr], _, ⟨⟨Sd ++ [x.key], HIN.out.hold hx hxr fun q => by rw [List.mem_append, List.mem_singleton]⟩, ab_set HAB.out i (by
            have e1 : x.j = y.j := (congrArg (fun a : Jb × Bool × Bool => a.1) hyx).symm
            show (x.j, x.run, true) = (y.j, y.run, true)
            rw [e1, hyr])⟩, h.right hq ho⟩
        clear hr hP1 hi hx hxk hy hyx hyr hxr
        (
          refine wp_region_pick_tail (fun wx => Holds wx bj (jc ⟨j1, j2, j3, j4, n1, d1⟩ (.slice pa (limb n1).length pc) (.slice qa (limb d1).length qc))) (fun wx => ∃ L' M', (L' = L ∧ M' = M) ∧ Du n qb rb bj ⟨j1, j2, j3, j4, n1, d1⟩ pa pc qa qc w0 L' M' wx) [0, 1, 4, 5] 4 8 (by kernel_rfl) ?_ (fun _ _ ⟨L', M', h1, h2⟩ hb => ⟨L', M', h1, h2.keep hb⟩) (fun _ ⟨_, _, _, h⟩ => h.box) ⟨L, M, ⟨rfl, rfl⟩, HD.out⟩ ?_
          · kernel_rfl
          repeat (apply pRow_plain
                  · exact rfl
                  · exact rfl
                  · intro wg hg
                    ((obtain ⟨s0, s1, s2, s3, s4, s5, s6, -⟩ := hg.lay7))
                    go_simp
                    first
                      | exact rfl
                      | exact Below.refl _ _
                      | exact ⟨Below.refl _ _, rfl⟩
                      | ((fail))
                  intro K hK
                  go_simp
                  refine hK _ ?_
                  clear hK K)
          refine pRow_nil ?_
          (
            refine lAnyL_step [2] ?_ (by simp) (by decide) ?_
            · kernel_rfl
            intro k hk
            obtain rfl : k = 2 := by simpa using hk
            refine lOp_call (kv (j1, j2)) rfl rfl (T' := fun wx => ∃ L' M', (fun L' M' => L' = L ∧ M' = M) L' M' ∧ Du n qb rb bj ⟨j1, j2, j3, j4, n1, d1⟩ pa pc qa qc w0 L' M' wx) (fun _ _ ⟨L', M', h1, h2⟩ hb => ⟨L', M', h1, h2.keep hb⟩) (fun _ ⟨_, _, _, h⟩ => h.box) ?_ ?_
            · rintro wg ⟨L', M', hp, hg⟩
              go_simp
              with_reducible refine (rkey_as ⟨j1, j2, j3, j4, n1, d1⟩ _ _ _ _ _ _ _).mono ?_
              rintro e w' ⟨rfl, hb⟩
              exact ⟨_, rfl, rfl, L', M', hp, hg.keep hb⟩
            go_simp)
          (
            refine lAnyL_step [3] ?_ (by simp) (by decide) ?_
            · kernel_rfl
            intro k hk
            obtain rfl : k = 3 := by simpa using hk
            refine lOp_call (.int .i64 r) rfl rfl (T' := fun wx => ∃ L' M', P1 L' M' ∧ Du n qb rb bj ⟨j1, j2, j3, j4, n1, d1⟩ pa pc qa qc w0 L' M' wx) (fun _ _ ⟨L', M', h1, h2⟩ hb => ⟨L', M', h1, h2.keep hb⟩) (fun _ ⟨_, _, _, h⟩ => h.box) ?_ ?_
            · rintro wg ⟨L', M', ⟨rfl, rfl⟩, hg⟩
              go_simp
              with_reducible refine ((KP _).out hg).mono ?_
              rintro e w' ⟨rfl, L2, h1, h2⟩
              exact ⟨_, rfl, rfl, L2, _, h1, h2⟩
            go_simp)
          (
            refine lAnyL_step [6] ?_ (by simp) (by decide) ?_
            · kernel_rfl
            intro k hk
            obtain rfl : k = 6 := by simpa using hk
            refine lOp_call (kv (j1, j2)) rfl rfl (T' := fun wx => ∃ L' M', P1 L' M' ∧ Du n qb rb bj ⟨j1, j2, j3, j4, n1, d1⟩ pa pc qa qc w0 L' M' wx) (fun _ _ ⟨L', M', h1, h2⟩ hb => ⟨L', M', h1, h2.keep hb⟩) (fun _ ⟨_, _, _, h⟩ => h.box) ?_ ?_
            · rintro wg ⟨L', M', hp, hg⟩
              go_simp
              with_reducible refine (rkey_as ⟨j1, j2, j3, j4, n1, d1⟩ _ _ _ _ _ _ _).mono ?_
              rintro e w' ⟨rfl, hb⟩
              exact ⟨_, rfl, rfl, L', M', hp, hg.keep hb⟩
            go_simp)
          (
            refine lAnyL_step [7] ?_ (by simp) (by decide) ?_
            · kernel_rfl
            intro k hk
            obtain rfl : k = 7 := by simpa using hk
            refine lOp_call (.int .i64 r) rfl rfl (T' := fun wx => ∃ L' M', Fin' n L' M' ∧ Du n qb rb bj ⟨j1, j2, j3, j4, n1, d1⟩ pa pc qa qc w0 L' M' wx) (fun _ _ ⟨L', M', h1, h2⟩ hb => ⟨L', M', h1, h2.keep hb⟩) (fun _ ⟨_, _, _, h⟩ => h.box) ?_ ?_
            · rintro wg ⟨L', M', hp, hg⟩
              go_simp
              with_reducible refine ((KR _ L' M').out hp hg).mono ?_
              rintro e w' ⟨rfl, M2, h1, h2⟩
              exact ⟨_, rfl, rfl, L', M2, h1, h2⟩
            go_simp
            refine ⟨?_, ?_⟩
            · kernel_rfl
            intro w9 hg9
            have H9 := Lib.hid hg9
            have hrr : (r == r) = true := by simp
            clear hg9
            go_wp2_with fail
            go_ret
            obtain ⟨L', M', h1, h2⟩ := H9.out
            exact ⟨rfl, L', M', h1, h2.q, h2.r, h2.below⟩))
  have q3 : (kd == 3) = false := by simpa using h3
  clear h3
  by_cases h4 : kd = 4
  · have q4 : (kd == 4) = true := by simpa using h4
    clear h4
    have HSL := Lib.hid (ab_slots HAB.out (n : Int))
    have HSC := Lib.hid (ab_sch L M (slotsL n L) HAB.out)
    have HHR := Lib.hid (ab_hr HAB.out HIN.out)
    go_enter Tryz.func20, Tryz.ntmps20
    go_wp2_with (first
      | (
          go_at_call 7
          (with_reducible refine (KJ _).out.mono ?_)
          rintro e w2 ⟨pa, pc, qa, qc, rfl, r1, r2, hb⟩
          have hx := below_alloc w2 (.cells (jc ⟨j1, j2, j3, j4, n1, d1⟩ (.slice pa (limb n1).length pc) (.slice qa (limb d1).length qc)) 29)
          have hbb := hb.trans (hx.mono hb.size)
          have HD := Lib.hid (show Du n qb rb w2.heap.size ⟨j1, j2, j3, j4, n1, d1⟩ pa pc qa qc w0 L M (w2.alloc (.cells (jc ⟨j1, j2, j3, j4, n1, d1⟩ (.slice pa (limb n1).length pc) (.slice qa (limb d1).length qc)) 29)) from
            ⟨(HQ.out.keep HB0.out).keep hbb, (HR.out.keep HB0.out).keep hbb, Holds.new w2 _ 29, TyB.new w2 _ 29, r1.keep hx, r2.keep hx, HRB.out, (HB.out.trans (HB0.out.mono HB.out.size)).trans (hbb.mono (HB.out.trans (HB0.out.mono HB.out.size)).size)⟩)
          have d0 := (hbb.cell (p := ⟨w.heap.size, 0, none⟩) HO.out.lt).trans s0
          clear hb hx r1 r2 hbb s0 s1 s2 s3 s4 s5 s6)
      | (go_at_call 25; (with_reducible refine (schedule_as HD.out.q HD.out.below.size (by have := HLN.out; omega) (by omega) (by omega)).mono ?_); rintro e w4 ⟨x1, S', x2, x3, P', x4, rfl, hs, hp, rs, rp, hq, ht⟩; have HD4 := Lib.hid (HD.out.left hq ht); have KS := Lib.hid (rschedule_as HD4.out.r (by have := HLN.out; omega) (by omega) (by omega) HHR.out); have HS4 := Lib.hid hs; have HP4 := Lib.hid hp; have RS4 := Lib.hid rs; have RP4 := Lib.hid rp; clear hs hp rs rp hq ht)
      | (go_at_call 41; (with_reducible refine KS.out.mono ?_); rintro e w5 ⟨y1, S2, y2, y3, P2, y4, rfl, hs, hp, rs, rp, hq, ho⟩; rw [HSL.out] at hs hp hq; rw [← HSC.out.2.1] at hs; rw [← HSC.out.2.2] at hp; obtain rfl : S2 = S' := keys_same hs.1 HS4.out.1 hs.2 HS4.out.2; obtain rfl : P2 = P' := keys_same hp.1 HP4.out.1 hp.2 HP4.out.2; have HD5 := Lib.hid (HD4.out.right hq ho); have h33 : (∀ s ∈ [rb], ∃ u, TyB w4 s u ∧ u ≠ 33) := (fun s hs => by rw [List.mem_singleton.1 hs]; exact ⟨71, HD4.out.r.ty, by decide⟩); have RS5 := Lib.hid (RS4.out.only ho h33).rd; have RP5 := Lib.hid (RP4.out.only ho h33).rd; have RT5 := Lib.hid rs.rd; have RQ5 := Lib.hid rp.rd; have TOK := Lib.hid True.intro; clear hs hp rs rp hq ho h33)
      | (go_at_call 26; have _t := TOK; (with_reducible refine (samekeys_as _ _ _ _ RS5.out RT5.out).mono ?_); rintro e w6 ⟨rfl, hb⟩; have HD6 := Lib.hid (HD5.out.keep hb); have RP6 := Lib.hid (RP5.out.keep hb); have RQ6 := Lib.hid (RQ5.out.keep hb); have TOK2 := Lib.hid True.intro; clear hb TOK _t)
      | (go_at_call 26; have _t := TOK2; (with_reducible refine (samekeys_as _ _ _ _ RP6.out RQ6.out).mono ?_); rintro e w7 ⟨rfl, hb⟩; have HD7 := Lib.hid (HD6.out.keep hb); clear hb TOK2 _t))
    go_ret
    exact ⟨rfl, _, _, ⟨⟨Sd, HIN.out.sch⟩, HSC.out.1⟩, HD7.out.q, HD7.out.r, HD7.out.below⟩
  have q4 : (kd == 4) = false := by simpa using h4
  clear h4
  go_enter Tryz.func20, Tryz.ntmps20
  go_wp2_with (
                go_at_call 7
                (with_reducible refine (KJ _).out.mono ?_)
                rintro e w2 ⟨pa, pc, qa, qc, rfl, r1, r2, hb⟩
                have hx := below_alloc w2 (.cells (jc ⟨j1, j2, j3, j4, n1, d1⟩ (.slice pa (limb n1).length pc) (.slice qa (limb d1).length qc)) 29)
                have hbb := hb.trans (hx.mono hb.size)
                have HD := Lib.hid (show Du n qb rb w2.heap.size ⟨j1, j2, j3, j4, n1, d1⟩ pa pc qa qc w0 L M (w2.alloc (.cells (jc ⟨j1, j2, j3, j4, n1, d1⟩ (.slice pa (limb n1).length pc) (.slice qa (limb d1).length qc)) 29)) from
                  ⟨(HQ.out.keep HB0.out).keep hbb, (HR.out.keep HB0.out).keep hbb, Holds.new w2 _ 29, TyB.new w2 _ 29, r1.keep hx, r2.keep hx, HRB.out, (HB.out.trans (HB0.out.mono HB.out.size)).trans (hbb.mono (HB.out.trans (HB0.out.mono HB.out.size)).size)⟩)
                have d0 := (hbb.cell (p := ⟨w.heap.size, 0, none⟩) HO.out.lt).trans s0
                clear hb hx r1 r2 hbb s0 s1 s2 s3 s4 s5 s6)
  (
    clear d0 HB0 HO HQ HR HB KJ
    change Hid (Du n qb rb w2.heap.size ⟨j1, j2, j3, j4, n1, d1⟩ pa pc qa qc w0 L M (w2.alloc (.cells #[.int .i64 j1, .int .i64 j2, .int .i64 j3, .bool false, .slice pa (limb n1).length pc, .slice qa (limb d1).length qc, .int .i64 j4] 29))) at HD
    generalize w2.alloc (.cells #[.int .i64 j1, .int .i64 j2, .int .i64 j3, .bool false, .slice pa (limb n1).length pc, .slice qa (limb d1).length qc, .int .i64 j4] 29) = w3 at HD ⊢
    generalize w2.heap.size = bj at HD ⊢)
  rcases idxF_cases (j1, j2) L with hi | ⟨i, hi, hil⟩
  · obtain ⟨r, hr⟩ : ∃ r : Int, r = 0 := ⟨_, rfl⟩
    obtain ⟨P1, hP1⟩ : ∃ P : List En → List En → Prop, P = fun L' M' => M' = M ∧ ∃ y : En, y.j = ⟨j1, j2, j3, j4, n1, d1⟩ ∧ y.run = false ∧ y.held = false ∧ L'.Perm (L ++ [y]) ∧ L'.Pairwise (fun x y => ltE y x = false) := ⟨_, rfl⟩
    have KP : ∀ wz, Hid (Du n qb rb bj ⟨j1, j2, j3, j4, n1, d1⟩ pa pc qa qc w0 L M wz → Calls Tryz.prog 16 #[.pointer (some ⟨qb, 0, none⟩), jv ⟨j1, j2, j3, j4, n1, d1⟩ (.slice pa (limb n1).length pc) (.slice qa (limb d1).length qc)] wz fun e w' => e = .returned (.int .i64 r) ∧ ∃ L', P1 L' M ∧ Du n qb rb bj ⟨j1, j2, j3, j4, n1, d1⟩ pa pc qa qc w0 L' M w') := fun wz => Lib.hid fun h => (put_new (j := ⟨j1, j2, j3, j4, n1, d1⟩) h.q h.below.size (by have := HLN.out; omega) OKJ.out h.num h.den hi).mono (by
      rintro e w' ⟨rfl, y, L', y1, y2, y3, hp, hs, hq, ht⟩
      exact ⟨by rw [hr], L', by rw [hP1]; exact ⟨rfl, y, y1, y2, y3, hp, hs⟩, h.left hq ht⟩)
    have KR : ∀ wz L' M', Hid (P1 L' M' → Du n qb rb bj ⟨j1, j2, j3, j4, n1, d1⟩ pa pc qa qc w0 L' M' wz → Calls Tryz.prog 42 #[.pointer (some ⟨rb, 0, none⟩), jv ⟨j1, j2, j3, j4, n1, d1⟩ (.slice pa (limb n1).length pc) (.slice qa (limb d1).length qc)] wz fun e w' => e = .returned (.int .i64 r) ∧ ∃ M2, Fin' n L' M2 ∧ Du n qb rb bj ⟨j1, j2, j3, j4, n1, d1⟩ pa pc qa qc w0 L' M2 w') := fun wz L' M' => Lib.hid fun hp h => by
      rw [hP1] at hp
      obtain ⟨rfl, y, y1, y2, y3, hp, hs⟩ := hp
      refine (rput_new (j := ⟨j1, j2, j3, j4, n1, d1⟩) h.r (by have := HLN.out; omega) OKJ.out h.num h.den (by rw [ab_idx HAB.out]; exact hi)).mono ?_
      rintro e w' ⟨rfl, y', z1, z2, z3, hq, ho⟩
      have hin2 := HIN.out.put_new (y := y) (by rw [En.key, y1]; exact hi) (by rw [y1]; exact OKJ.out) y2 y3 hp hs
      exact ⟨by rw [hr], _, ⟨⟨Sd, hin2⟩, ab_put_new HAB.out HIN.out hin2 (by show (y.j, y.run, y.held) = (y'.j, y'.run, y'.held); rw [y1, y2, y3, z1, z2, z3]) hp (by rw [z1]; exact OKJ.out)⟩, h.right hq ho⟩
    clear hr hP1 hi
    (
      refine wp_region_pick_tail (fun wx => Holds wx bj (jc ⟨j1, j2, j3, j4, n1, d1⟩ (.slice pa (limb n1).length pc) (.slice qa (limb d1).length qc))) (fun wx => ∃ L' M', (L' = L ∧ M' = M) ∧ Du n qb rb bj ⟨j1, j2, j3, j4, n1, d1⟩ pa pc qa qc w0 L' M' wx) [0, 1, 3, 4] 2 6 (by kernel_rfl) ?_ (fun _ _ ⟨L', M', h1, h2⟩ hb => ⟨L', M', h1, h2.keep hb⟩) (fun _ ⟨_, _, _, h⟩ => h.box) ⟨L, M, ⟨rfl, rfl⟩, HD.out⟩ ?_
      · kernel_rfl
      repeat (apply pRow_plain
              · exact rfl
              · exact rfl
              · intro wg hg
                ((obtain ⟨s0, s1, s2, s3, s4, s5, s6, -⟩ := hg.lay7))
                go_simp
                first
                  | exact rfl
                  | exact Below.refl _ _
                  | exact ⟨Below.refl _ _, rfl⟩
                  | ((fail))
              intro K hK
              go_simp
              refine hK _ ?_
              clear hK K)
      refine pRow_nil ?_
      (
        refine lAnyL_step [2] ?_ (by simp) (by decide) ?_
        · kernel_rfl
        intro k hk
        obtain rfl : k = 2 := by simpa using hk
        refine lOp_call (.int .i64 r) rfl rfl (T' := fun wx => ∃ L' M', P1 L' M' ∧ Du n qb rb bj ⟨j1, j2, j3, j4, n1, d1⟩ pa pc qa qc w0 L' M' wx) (fun _ _ ⟨L', M', h1, h2⟩ hb => ⟨L', M', h1, h2.keep hb⟩) (fun _ ⟨_, _, _, h⟩ => h.box) ?_ ?_
        · rintro wg ⟨L', M', ⟨rfl, rfl⟩, hg⟩
          go_simp
          with_reducible refine ((KP _).out hg).mono ?_
          rintro e w' ⟨rfl, L2, h1, h2⟩
          exact ⟨_, rfl, rfl, L2, _, h1, h2⟩
        go_simp)
      (
        refine lAnyL_step [5] ?_ (by simp) (by decide) ?_
        · kernel_rfl
        intro k hk
        obtain rfl : k = 5 := by simpa using hk
        refine lOp_call (.int .i64 r) rfl rfl (T' := fun wx => ∃ L' M', Fin' n L' M' ∧ Du n qb rb bj ⟨j1, j2, j3, j4, n1, d1⟩ pa pc qa qc w0 L' M' wx) (fun _ _ ⟨L', M', h1, h2⟩ hb => ⟨L', M', h1, h2.keep hb⟩) (fun _ ⟨_, _, _, h⟩ => h.box) ?_ ?_
        · rintro wg ⟨L', M', hp, hg⟩
          go_simp
          with_reducible refine ((KR _ L' M').out hp hg).mono ?_
          rintro e w' ⟨rfl, M2, h1, h2⟩
          exact ⟨_, rfl, rfl, L', M2, h1, h2⟩
        go_simp
        refine ⟨?_, ?_⟩
        · kernel_rfl
        intro w9 hg9
        have H9 := Lib.hid hg9
        have hrr : (r == r) = true := by simp
        clear hg9
        go_wp2_with fail
        go_ret
        obtain ⟨L', M', h1, h2⟩ := H9.out
        exact ⟨rfl, L', M', h1, h2.q, h2.r, h2.below⟩))
  · obtain ⟨x, hx, hxk⟩ := idxF_spec hi
    obtain ⟨z, hz, hzx⟩ := ab_get HAB.out hx
    have hzr : z.run = x.run := congrArg (fun a : Jb × Bool × Bool => a.2.1) hzx
    have hzh : z.held = x.held := congrArg (fun a : Jb × Bool × Bool => a.2.2) hzx
    obtain ⟨r, hr⟩ : ∃ r : Int, r = 0 := ⟨_, rfl⟩
    obtain ⟨P1, hP1⟩ : ∃ P : List En → List En → Prop, P = fun L' M' => M' = M ∧ ∃ y : En, y.j = ⟨j1, j2, j3, j4, n1, d1⟩ ∧ y.run = x.run ∧ y.held = x.held ∧ L'.Perm (L.set i y) ∧ L'.Pairwise (fun x y => ltE y x = false) := ⟨_, rfl⟩
    have KP : ∀ wz, Hid (Du n qb rb bj ⟨j1, j2, j3, j4, n1, d1⟩ pa pc qa qc w0 L M wz → Calls Tryz.prog 16 #[.pointer (some ⟨qb, 0, none⟩), jv ⟨j1, j2, j3, j4, n1, d1⟩ (.slice pa (limb n1).length pc) (.slice qa (limb d1).length qc)] wz fun e w' => e = .returned (.int .i64 r) ∧ ∃ L', P1 L' M ∧ Du n qb rb bj ⟨j1, j2, j3, j4, n1, d1⟩ pa pc qa qc w0 L' M w') := fun wz => Lib.hid fun h => (put_old (j := ⟨j1, j2, j3, j4, n1, d1⟩) h.q h.below.size (by have := HLN.out; omega) OKJ.out h.num h.den hi hx).mono (by
      rintro e w' ⟨rfl, y, L', y1, y2, y3, hp, hs, hq, ht⟩
      exact ⟨by rw [hr], L', by rw [hP1]; exact ⟨rfl, y, y1, y2, y3, hp, hs⟩, h.left hq ht⟩)
    have KR : ∀ wz L' M', Hid (P1 L' M' → Du n qb rb bj ⟨j1, j2, j3, j4, n1, d1⟩ pa pc qa qc w0 L' M' wz → Calls Tryz.prog 42 #[.pointer (some ⟨rb, 0, none⟩), jv ⟨j1, j2, j3, j4, n1, d1⟩ (.slice pa (limb n1).length pc) (.slice qa (limb d1).length qc)] wz fun e w' => e = .returned (.int .i64 r) ∧ ∃ M2, Fin' n L' M2 ∧ Du n qb rb bj ⟨j1, j2, j3, j4, n1, d1⟩ pa pc qa qc w0 L' M2 w') := fun wz L' M' => Lib.hid fun hp h => by
      rw [hP1] at hp
      obtain ⟨rfl, y, y1, y2, y3, hp, hs⟩ := hp
      refine (rput_old (j := ⟨j1, j2, j3, j4, n1, d1⟩) h.r (by have := HLN.out; omega) OKJ.out h.num h.den (by rw [ab_idx HAB.out]; exact hi) hz rfl).mono ?_
      rintro e w' ⟨rfl, y', z1, z2, z3, hq, ho⟩
      have hin2 := HIN.out.put_old (y := y) hx (by rw [hxk, En.key, y1]) (by rw [y1]; exact OKJ.out) y2 y3 hp hs
      exact ⟨by rw [hr], _, ⟨⟨Sd, hin2⟩, ab_put_old hil HAB.out HIN.out hin2 (by show (y.j, y.run, y.held) = (y'.j, y'.run, y'.held); rw [y1, y2, y3, z1, z2, z3, hzr, hzh]) hp (by rw [z1]; exact OKJ.out)⟩, h.right hq ho⟩
    clear hr hP1 hi hx hxk hz hzx hzr hzh hil
    (
      refine wp_region_pick_tail (fun wx => Holds wx bj (jc ⟨j1, j2, j3, j4, n1, d1⟩ (.slice pa (limb n1).length pc) (.slice qa (limb d1).length qc))) (fun wx => ∃ L' M', (L' = L ∧ M' = M) ∧ Du n qb rb bj ⟨j1, j2, j3, j4, n1, d1⟩ pa pc qa qc w0 L' M' wx) [0, 1, 3, 4] 2 6 (by kernel_rfl) ?_ (fun _ _ ⟨L', M', h1, h2⟩ hb => ⟨L', M', h1, h2.keep hb⟩) (fun _ ⟨_, _, _, h⟩ => h.box) ⟨L, M, ⟨rfl, rfl⟩, HD.out⟩ ?_
      · kernel_rfl
      repeat (apply pRow_plain
              · exact rfl
              · exact rfl
              · intro wg hg
                ((obtain ⟨s0, s1, s2, s3, s4, s5, s6, -⟩ := hg.lay7))
                go_simp
                first
                  | exact rfl
                  | exact Below.refl _ _
                  | exact ⟨Below.refl _ _, rfl⟩
                  | ((fail))
              intro K hK
              go_simp
              refine hK _ ?_
              clear hK K)
      refine pRow_nil ?_
      (
        refine lAnyL_step [2] ?_ (by simp) (by decide) ?_
        · kernel_rfl
        intro k hk
        obtain rfl : k = 2 := by simpa using hk
        refine lOp_call (.int .i64 r) rfl rfl (T' := fun wx => ∃ L' M', P1 L' M' ∧ Du n qb rb bj ⟨j1, j2, j3, j4, n1, d1⟩ pa pc qa qc w0 L' M' wx) (fun _ _ ⟨L', M', h1, h2⟩ hb => ⟨L', M', h1, h2.keep hb⟩) (fun _ ⟨_, _, _, h⟩ => h.box) ?_ ?_
        · rintro wg ⟨L', M', ⟨rfl, rfl⟩, hg⟩
          go_simp
          with_reducible refine ((KP _).out hg).mono ?_
          rintro e w' ⟨rfl, L2, h1, h2⟩
          exact ⟨_, rfl, rfl, L2, _, h1, h2⟩
        go_simp)
      (
        refine lAnyL_step [5] ?_ (by simp) (by decide) ?_
        · kernel_rfl
        intro k hk
        obtain rfl : k = 5 := by simpa using hk
        refine lOp_call (.int .i64 r) rfl rfl (T' := fun wx => ∃ L' M', Fin' n L' M' ∧ Du n qb rb bj ⟨j1, j2, j3, j4, n1, d1⟩ pa pc qa qc w0 L' M' wx) (fun _ _ ⟨L', M', h1, h2⟩ hb => ⟨L', M', h1, h2.keep hb⟩) (fun _ ⟨_, _, _, h⟩ => h.box) ?_ ?_
        · rintro wg ⟨L', M', hp, hg⟩
          go_simp
          with_reducible refine ((KR _ L' M').out hp hg).mono ?_
          rintro e w' ⟨rfl, M2, h1, h2⟩
          exact ⟨_, rfl, rfl, L', M2, h1, h2⟩
        go_simp
        refine ⟨?_, ?_⟩
        · kernel_rfl
        intro w9 hg9
        have H9 := Lib.hid hg9
        have hrr : (r == r) = true := by simp
        clear hg9
        go_wp2_with fail
        go_ret
        obtain ⟨L', M', h1, h2⟩ := H9.out
        exact ⟨rfl, L', M', h1, h2.q, h2.r, h2.below⟩))
end Go.Proofs.YtgnmolleaengaaaGreat
