/- The walks of the reference's Advance and Version, of Within and near. -/
import Derived.Test.YtnhpjmjinchamaaRd
set_option linter.unusedVariables false
set_option linter.unusedSimpArgs false
set_option linter.unnecessarySimpa false
namespace Go.Proofs.Ytnhpjmjinchamaa
open Go Go.RowKit

section
variable {w : World} {B rb : Nat} {R : Rf}
theorem Rs.setNum {w1 : World} (h : Rs w B rb R w1) (n : Int) : Rs w B rb { R with num := n } (w1.setCell ⟨rb, 97, none⟩ (.int .i64 n)) := by
  have oth : ∀ i, i ≠ 97 → (w1.setCell ⟨rb, 97, none⟩ (.int .i64 n)).cell? ⟨rb, i, none⟩ = w1.cell? ⟨rb, i, none⟩ := fun i hi => World.cell?_setCell_other _ _ _ _ (by simpa using fun h => hi h.symm)
  obtain ⟨vL, h1, h2, h3⟩ := h.rf.row
  refine ⟨⟨h.rf.base, by simpa using h.rf.lt, fun v f hv hf => (oth _ (by omega)).trans (h.rf.giv v f hv hf), ⟨vL, (oth _ (by omega)).trans h1, owns_same h2 fun k hk => Below.heap_setCell _ _ _ _ (fun e => h3 (by rw [hk]; exact congrArg some e)), h3⟩, World.cell?_setCell_same _ _ _ h.rf.num, (oth _ (by omega)).trans h.rf.cnt, h.rf.thaw.setCell _ _, h.rf.short⟩, h.below.setCell (.inl (by simp)) _ _, fun b hlt hs vL' hv => h.sep b hlt hs vL' ((oth _ (by omega)).symm.trans hv)⟩
theorem Rs.setCnt {w1 : World} (h : Rs w B rb R w1) (n : Int) : Rs w B rb { R with cnt := n } (w1.setCell ⟨rb, 98, none⟩ (.int .i64 n)) := by
  have oth : ∀ i, i ≠ 98 → (w1.setCell ⟨rb, 98, none⟩ (.int .i64 n)).cell? ⟨rb, i, none⟩ = w1.cell? ⟨rb, i, none⟩ := fun i hi => World.cell?_setCell_other _ _ _ _ (by simpa using fun h => hi h.symm)
  obtain ⟨vL, h1, h2, h3⟩ := h.rf.row
  refine ⟨⟨h.rf.base, by simpa using h.rf.lt, fun v f hv hf => (oth _ (by omega)).trans (h.rf.giv v f hv hf), ⟨vL, (oth _ (by omega)).trans h1, owns_same h2 fun k hk => Below.heap_setCell _ _ _ _ (fun e => h3 (by rw [hk]; exact congrArg some e)), h3⟩, (oth _ (by omega)).trans h.rf.num, World.cell?_setCell_same _ _ _ h.rf.cnt, h.rf.thaw.setCell _ _, h.rf.short⟩, h.below.setCell (.inl (by simp)) _ _, fun b hlt hs vL' hv => h.sep b hlt hs vL' ((oth _ (by omega)).symm.trans hv)⟩
theorem Rs.out {w1 : World} (h : Rs w B rb R w1) : RfAt w1 B rb R ∧ Only [rb] w w1 ∧ ∀ b, b < w.heap.size → Sep w rb b → Sep w1 rb b := ⟨h.rf, h.below, h.sep⟩
end

def radvF (R : Rf) (t : Int) : Int × Rf := if t < 0 ∨ 1048575 < t then (5, R) else if t ≤ R.num then (109, R) else (0, { R with num := t, cnt := 0 })

theorem radv_any {w : World} {B rb : Nat} {R : Rf} (h : RfAt w B rb R) (t : Int) : Calls Try.prog 31 #[.pointer (some ⟨rb, 0, none⟩), .int .i64 t] w (RefPost w B rb (radvF R t).2 (.int .i64 (radvF R t).1)) := by
  unfold radvF
  have HS := Lib.hid (Rs.start h)
  obtain ⟨n, hn⟩ : ∃ n, R.num = n := ⟨_, rfl⟩
  have HN := Lib.hid hn
  rw [hn]
  have c97 := h.num
  have c98 := h.cnt
  have f97 := h.thaw 97
  have f98 := h.thaw 98
  rw [hn] at c97
  clear hn h
  by_cases h1 : t < 0
  · rw [if_pos (.inl h1)]
    go_enter Try.func31, Try.ntmps31
    go_wp2_with fail
    go_ret
    exact ⟨rfl, HS.out.out⟩
  by_cases h2 : 1048575 < t
  · rw [if_pos (.inr h2)]
    go_enter Try.func31, Try.ntmps31
    go_wp2_with fail
    go_ret
    exact ⟨rfl, HS.out.out⟩
  rw [if_neg (by omega)]
  by_cases h3 : t ≤ n
  · rw [if_pos h3]
    go_enter Try.func31, Try.ntmps31
    go_wp2_with fail
    go_ret
    exact ⟨rfl, HS.out.out⟩
  · rw [if_neg h3]
    go_enter Try.func31, Try.ntmps31
    go_wp2_with fail
    go_ret
    exact ⟨rfl, ((HS.out.setNum t).setCnt 0).out⟩

def rverF (R : Rf) : (Int × Int) × Rf := if R.num = 0 then ((0, 109), R) else if 1048575 ≤ R.cnt then ((0, 2), R) else ((R.num * 1048576 + (R.cnt + 1), 0), { R with cnt := R.cnt + 1 })

theorem rver_any {w : World} {B rb : Nat} {R : Rf} (h : RfAt w B rb R) (h1 : 0 ≤ R.num) (h2 : R.num ≤ 1048575) (h3 : 0 ≤ R.cnt) :
    Calls Try.prog 38 #[.pointer (some ⟨rb, 0, none⟩)] w (RefPost w B rb (rverF R).2 (.tuple #[.int .i64 (rverF R).1.1, .int .i64 (rverF R).1.2])) := by
  unfold rverF
  have HS := Lib.hid (Rs.start h)
  obtain ⟨n, hn⟩ : ∃ n, R.num = n := ⟨_, rfl⟩
  obtain ⟨c, hc⟩ : ∃ n, R.cnt = n := ⟨_, rfl⟩
  have HN := Lib.hid hn
  have HC := Lib.hid hc
  rw [hn, hc]
  have c97 := h.num
  have c98 := h.cnt
  have f97 := h.thaw 97
  have f98 := h.thaw 98
  rw [hn] at c97 h1 h2
  rw [hc] at c98 h3
  clear hn hc h
  by_cases q1 : n = 0
  · rw [if_pos q1]
    subst q1
    go_enter Try.func38, Try.ntmps38
    go_wp2_with fail
    go_ret2
    exact ⟨rfl, HS.out.out⟩
  rw [if_neg q1]
  have q1' : (n == 0) = false := by simpa using q1
  by_cases q2 : 1048575 ≤ c
  · rw [if_pos q2]
    go_enter Try.func38, Try.ntmps38
    go_wp2_with fail
    go_ret2
    exact ⟨rfl, HS.out.out⟩
  · rw [if_neg q2]
    clear q1
    have W1 := Lib.hid (show IntKind.i64.wrap (n * 1048576) = n * 1048576 from IntWalk.i64_in _ (by omega))
    have W2 := Lib.hid (show IntKind.i64.wrap (n * 1048576 + (c + 1)) = n * 1048576 + (c + 1) from IntWalk.i64_in _ (by omega))
    go_enter Try.func38, Try.ntmps38
    go_wp2_with fail
    have w1 := W1.out
    have w2 := W2.out
    go_quiet (fail)
    go_wp2
    go_ret2
    have hh := (HS.out.setCnt (c + 1)).call (w' := (w.setCell ⟨rb, 98, none⟩ (.int .i64 (c + 1))).drewN nq) ⟨rfl, rfl, rfl, Nat.le_refl _, fun _ _ => rfl⟩
    rw [HN.out] at hh
    exact ⟨rfl, hh.out⟩

theorem tmod_emod (x n : Int) (h : 1 ≤ n) : (if x.tmod n < 0 then x.tmod n + n else x.tmod n) = x % n := by
  have h0 : 0 ≤ x % n := Int.emod_nonneg _ (by omega)
  have h1 : x % n < n := Int.emod_lt_of_pos _ (by omega)
  rcases Int.lt_or_le x 0 with hx | hx
  · have e : x.tmod n = -((-x) % n) := by
      have := Int.neg_tmod (-x) n
      rw [Int.neg_neg] at this
      rw [this, Int.tmod_eq_emod_of_nonneg (by omega)]
    rw [e]
    have g0 : 0 ≤ (-x) % n := Int.emod_nonneg _ (by omega)
    have g1 : (-x) % n < n := Int.emod_lt_of_pos _ (by omega)
    have key : x % n = if (-x) % n = 0 then 0 else n - (-x) % n := by
      have hx1 : x = n * (-((-x) / n)) + -((-x) % n) := by
        have := Int.mul_ediv_add_emod (-x) n
        rw [Int.mul_neg]; omega
      split
      · rename_i h0
        rw [h0] at hx1
        rw [hx1, Int.neg_zero, Int.add_zero]; exact Int.mul_emod_right _ _
      · rename_i hne
        have hx2 : x = (n - (-x) % n) + n * (-((-x) / n) - 1) := by rw [Int.mul_sub]; omega
        rw [hx2, Int.add_mul_emod_self_left]
        have : (-(n - -x % n + n * (-(-x / n) - 1))) % n = (-x) % n := by rw [← hx2]
        rw [this]
        exact Int.emod_eq_of_lt (by omega) (by omega)
    rw [key]
    split
    · split <;> omega
    · split <;> omega
  · rw [Int.tmod_eq_emod_of_nonneg hx, if_neg (by omega)]

set_option maxHeartbeats 1000000 in
theorem within_any (x n : Int) (w : World) (hn : 1 ≤ n) (hn2 : n ≤ 9223372036854775807) (h1 : -9223372036854775808 ≤ x) (h2 : x ≤ 9223372036854775807) :
    Calls Try.prog 17 #[.int .i64 x, .int .i64 n] w fun e w' => e = .returned (.int .i64 (x % n)) ∧ w = w' := by
  have he := tmod_emod x n hn
  have hn0 : ¬ n < 1 := by omega
  by_cases hneg : x.tmod n < 0
  · rw [if_pos hneg] at he
    have hb : 0 ≤ x % n ∧ x % n < n := ⟨Int.emod_nonneg _ (by omega), Int.emod_lt_of_pos _ (by omega)⟩
    have hw : wrap64 (x.tmod n + n) = x % n := by rw [he]; exact IntWalk.wrap64_in _ (by omega)
    have HW := Lib.hid hw
    clear he hw
    go_enter Try.func17, Try.ntmps17
    go_wp2_with fail
    go_ret
    exact ⟨congrArg (fun z => Ending.returned (.int .i64 z)) HW.out, rfl⟩
  · rw [if_neg hneg] at he
    have HE := Lib.hid he
    clear he
    go_enter Try.func17, Try.ntmps17
    go_wp2_with fail
    go_ret
    exact ⟨congrArg (fun z => Ending.returned (.int .i64 z)) HE.out, rfl⟩

/-- one call of the law's list -/
structure Opc where
  kind : Int
  vol : Int
  frag : Int
  drive : Int
  ext : Int
abbrev ov (o : Opc) : Value := .agg #[.int .i64 o.kind, .int .i64 o.vol, .int .i64 o.frag, .int .i64 o.drive, .int .i64 o.ext]
abbrev oc (o : Opc) : Array Value := #[.int .i64 o.kind, .int .i64 o.vol, .int .i64 o.frag, .int .i64 o.drive, .int .i64 o.ext]
def In64' (n : Int) : Prop := -9223372036854775808 ≤ n ∧ n ≤ 9223372036854775807
def OkOp (o : Opc) : Prop := In64' o.vol ∧ In64' o.frag ∧ In64' o.drive ∧ In64' o.ext
def nearO (o : Opc) : Opc := ⟨o.kind, o.vol % 3, o.frag % 3, o.drive % 5, o.ext % 3⟩

set_option maxRecDepth 20000 in
set_option maxHeartbeats 1000000 in
theorem near_any (o : Opc) (ho : OkOp o) (w : World) : Calls Try.prog 16 #[ov o] w fun e w' => e = .returned (ov (nearO o)) ∧ Below w.heap.size w w' := by
  obtain ⟨⟨v1, v2⟩, ⟨f1, f2⟩, ⟨d1, d2⟩, e1, e2⟩ := ho
  have HM := Lib.hid (((Mm.start (S := []) w (by simp)).push w.heap.size (oc o) 42 rfl).push (w.heap.size + 1) (oc ⟨0, 0, 0, 0, 0⟩) 42 (by simp))
  obtain ⟨nv, hnv⟩ : ∃ n, o.vol % 3 = n := ⟨_, rfl⟩
  obtain ⟨nf, hnf⟩ : ∃ n, o.frag % 3 = n := ⟨_, rfl⟩
  obtain ⟨nd, hnd⟩ : ∃ n, o.drive % 5 = n := ⟨_, rfl⟩
  obtain ⟨ne, hne⟩ : ∃ n, o.ext % 3 = n := ⟨_, rfl⟩
  have c1 := Lib.hid (hnv ▸ within_any o.vol 3 w (by omega) (by omega) v1 v2)
  have k1 := fun w => Lib.hid (hnv ▸ within_any o.vol 3 w (by omega) (by omega) v1 v2)
  have k2 := fun w => Lib.hid (hnf ▸ within_any o.frag 3 w (by omega) (by omega) f1 f2)
  have k3 := fun w => Lib.hid (hnd ▸ within_any o.drive 5 w (by omega) (by omega) d1 d2)
  have k4 := fun w => Lib.hid (hne ▸ within_any o.ext 3 w (by omega) (by omega) e1 e2)
  unfold nearO
  rw [hnv, hnf, hnd, hne]
  clear c1 hnv hnf hnd hne v1 v2 f1 f2 d1 d2 e1 e2
  obtain ⟨kd, ov, of, od, oe⟩ := o
  go_enter Try.func16, Try.ntmps16
  go_wp2_with fail
  change Hid (Mm [] w ((w.alloc (.cells #[.int .i64 kd, .int .i64 ov, .int .i64 of, .int .i64 od, .int .i64 oe] 42)).alloc (.cells #[.int .i64 0, .int .i64 0, .int .i64 0, .int .i64 0, .int .i64 0] 42)) [(w.heap.size + 1, #[.int .i64 0, .int .i64 0, .int .i64 0, .int .i64 0, .int .i64 0]), (w.heap.size, #[.int .i64 kd, .int .i64 ov, .int .i64 of, .int .i64 od, .int .i64 oe])]) at HM
  generalize (w.alloc (.cells #[.int .i64 kd, .int .i64 ov, .int .i64 of, .int .i64 od, .int .i64 oe] 42)).alloc (.cells #[.int .i64 0, .int .i64 0, .int .i64 0, .int .i64 0, .int .i64 0] 42) = w1 at *
  obtain ⟨b0, b1, b2, b3, b4, -, -, -, -, -, bl⟩ := HM.out.lay5 1 rfl
  refine wp_region_grow_tail (Below w1.heap.size w1) 15 (by kernel_rfl) ?_ (Below.refl _ _).drew ?_
  · kernel_rfl
  simp only [List.take_succ_cons, List.take_zero, List.drop_succ_cons, List.drop_zero]
  repeat first
           | (apply gRow_plain
              · exact rfl
              · intro wg hg
                ((have x0 := (hg.cell (p := ⟨w.heap.size, 0, none⟩) bl).trans b0; have x1 := (hg.cell (p := ⟨w.heap.size, 1, none⟩) bl).trans b1; have x2 := (hg.cell (p := ⟨w.heap.size, 2, none⟩) bl).trans b2; have x3 := (hg.cell (p := ⟨w.heap.size, 3, none⟩) bl).trans b3; have x4 := (hg.cell (p := ⟨w.heap.size, 4, none⟩) bl).trans b4))
                go_simp
                first
                  | exact rfl
                  | exact hg
                  | exact ⟨hg, rfl⟩
                  | ((first | ((with_reducible refine (k1 _).out.mono ?_); rintro e w' ⟨rfl, rfl⟩; exact ⟨rfl, hg⟩) | ((with_reducible refine (k2 _).out.mono ?_); rintro e w' ⟨rfl, rfl⟩; exact ⟨rfl, hg⟩) | ((with_reducible refine (k3 _).out.mono ?_); rintro e w' ⟨rfl, rfl⟩; exact ⟨rfl, hg⟩) | ((with_reducible refine (k4 _).out.mono ?_); rintro e w' ⟨rfl, rfl⟩; exact ⟨rfl, hg⟩)))
              intro K hK
              go_simp
              refine hK _ ?_
              clear hK K)
           | (apply gRow_step
              · go_simp; done
              · intro wg hg
                ((have x0 := (hg.cell (p := ⟨w.heap.size, 0, none⟩) bl).trans b0; have x1 := (hg.cell (p := ⟨w.heap.size, 1, none⟩) bl).trans b1; have x2 := (hg.cell (p := ⟨w.heap.size, 2, none⟩) bl).trans b2; have x3 := (hg.cell (p := ⟨w.heap.size, 3, none⟩) bl).trans b3; have x4 := (hg.cell (p := ⟨w.heap.size, 4, none⟩) bl).trans b4))
                go_simp
                first
                  | exact rfl
                  | exact hg
                  | exact ⟨hg, rfl⟩
                  | ((first | ((with_reducible refine (k1 _).out.mono ?_); rintro e w' ⟨rfl, rfl⟩; exact ⟨rfl, hg⟩) | ((with_reducible refine (k2 _).out.mono ?_); rintro e w' ⟨rfl, rfl⟩; exact ⟨rfl, hg⟩) | ((with_reducible refine (k3 _).out.mono ?_); rintro e w' ⟨rfl, rfl⟩; exact ⟨rfl, hg⟩) | ((with_reducible refine (k4 _).out.mono ?_); rintro e w' ⟨rfl, rfl⟩; exact ⟨rfl, hg⟩)))
              intro K hK
              go_simp
              refine hK _ ?_
              clear hK K)
           | (apply gRow_not
              · go_simp; done
              intro K hK
              go_simp
              refine hK _ ?_
              clear hK K)
  refine gRow_nil ?_
  intro w2 hb2
  have HM2 := Lib.hid (HM.out.call hb2)
  clear hb2 b0 b1 b2 b3 b4 bl
  obtain ⟨b0, b1, b2, b3, b4, f0, f1, f2, f3, f4, bl⟩ := HM2.out.lay5 0 rfl
  go_wp2
  have HM3 := HM2.out.put5 0 rfl (.int .i64 kd) (.int .i64 nv) (.int .i64 nf) (.int .i64 nd) (.int .i64 ne)
  clear b0 b1 b2 b3 b4 f0 f1 f2 f3 f4 bl
  refine bodyPost_ret (v := .agg #[.int .i64 kd, .int .i64 nv, .int .i64 nf, .int .i64 nd, .int .i64 ne]) ?_ rfl ⟨rfl, HM3.only.below (by simp) (Nat.le_refl _)⟩
  obtain ⟨c0, c1, c2, c3, c4, -⟩ := HM3.lay5 0 rfl
  simp [results, Try.results16, go_sem, c0, c1, c2, c3, c4]
end Go.Proofs.Ytnhpjmjinchamaa
