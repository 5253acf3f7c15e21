/- The walk of RepairqUrgent. -/
import Derived.Test.YtgnmolleaengaaaGreatTc
import Derived.Deep.CutRange
import Derived.Deep.CutBlock
set_option linter.unusedVariables false
set_option linter.unusedSimpArgs false
set_option linter.unnecessarySimpa false
namespace Go.Proofs.YtgnmolleaengaaaGreat
open Go Go.RowKit

/-- the state of the law -/
structure Su (n qb : Nat) (w wr : World) (L : List En) (Sd : List Ky) (v : Value) : Prop where
  q : Qp w.heap.size qb n L wr
  inv : In2 n L Sd
  t : Qt w.heap.size w wr
  sd : Ow eK 33 w wr v Sd
theorem Su.keep {n qb : Nat} {w wr w' : World} {L : List En} {Sd : List Ky} {v : Value} (h : Su n qb w wr L Sd v) (hb : Below wr.heap.size wr w') : Su n qb w w' L Sd v := ⟨h.q.keep hb, h.inv, h.t.keep hb, h.sd.grow hb⟩
theorem ow_qt {w wr w' : World} {v : Value} {Sd : List Ky} (h : Ow eK 33 w wr v Sd) (hq : Qt w.heap.size wr w') : Ow eK 33 w w' v Sd :=
  ⟨h.below.trans (hq.below h.below.size), owns_same h.row fun k hk => hq.block k (h.row.lt k hk).2 (.inr ⟨fun q => absurd ((owns_ty h.row hk).uniq q) (by decide), fun q => absurd ((owns_ty h.row hk).uniq q) (by decide)⟩), (fun t ht => by cases ht)⟩
theorem Su.turn {n qb : Nat} {w wr w' : World} {L L' : List En} {Sd : List Ky} {v : Value} (h : Su n qb w wr L Sd v) (hq : Qp w.heap.size qb n L' w') (ht : Qt w.heap.size wr w') (hi : In2 n L' Sd) : Su n qb w w' L' Sd v := ⟨hq, hi, h.t.trans ht, ow_qt h.sd ht⟩

/-- the state while the sealed keys are copied -/
structure Rl (n qb : Nat) (w wx : World) (L : List En) (bx : Nat) (cs : Array Value) (v1 v2 : Value) (R Sd : List Ky) : Prop where
  q : Qp w.heap.size qb n L wx
  t : Qt w.heap.size w wx
  two : Two w.heap.size w wx v1 v2 R Sd
  box : Holds wx bx cs
  bty : TyB wx bx 29
theorem Rl.keep {n qb : Nat} {w wx w' : World} {L : List En} {bx : Nat} {cs : Array Value} {v1 v2 : Value} {R Sd : List Ky} (h : Rl n qb w wx L bx cs v1 v2 R Sd) (hb : Below wx.heap.size wx w') : Rl n qb w w' L bx cs v1 v2 R Sd :=
  ⟨h.q.keep hb, h.t.keep hb, h.two.keep hb, h.box.keep hb, h.bty.keep hb⟩
theorem Rl.push {n qb : Nat} {w wx w' : World} {L : List En} {bx : Nat} {cs : Array Value} {v1 v2 v1' : Value} {R Sd R' : List Ky} (h : Rl n qb w wx L bx cs v1 v2 R Sd) (ho : Ow eK 33 w w' v1' R') (hg : Grew wx w' v1 v1') : Rl n qb w w' L bx cs v1' v2 R' Sd := by
  have hbx : w'.heap[bx]? = wx.heap[bx]? := hg.by_.block bx h.bty.lt fun e => absurd ((owns_ty h.two.o1.row e.symm).uniq h.bty) (by decide)
  exact ⟨h.q.grown h.two.o1.row (by decide) (by decide) (by decide) hg.by_, h.t.grown hg.by_ h.two.n1, h.two.push ho hg, h.box.same hg.by_.size hbx, h.bty.same hbx⟩
def dropK (k : Ky) (Sd : List Ky) : List Ky := Sd.filter fun q => decide (q ≠ k)
theorem dropK_len (k : Ky) (Sd : List Ky) : (dropK k Sd).length ≤ Sd.length := List.length_filter_le _ _
theorem filter_succ {Sd : List Ky} {k : Ky} {i : Nat} {x : Ky} (h : Sd[i]? = some x) : dropK k (Sd.take (i + 1)) = dropK k (Sd.take i) ++ (if x = k then [] else [x]) := by
  unfold dropK
  rw [take_snoc h, List.filter_append]
  by_cases e : x = k <;> simp [e]

theorem holds_qt {B bx : Nat} {cs : Array Value} {w w' : World} (h : Holds w bx cs) (hb : TyB w bx 29) (ht : Qt B w w') : Holds w' bx cs :=
  h.same ht.size (ht.block bx hb.lt (.inr ⟨fun q => absurd (q.uniq hb) (by decide), fun q => absurd (q.uniq hb) (by decide)⟩))

theorem nth_job {M L : List En} (h : M.map (·.j) = L.map (·.j)) {k : Nat} {x : En} (hx : L[k]? = some x) : ∃ y, M[k]? = some y ∧ y.j = x.j := by
  have e := congrArg (fun l => l[k]?) h
  simp only [List.getElem?_map, hx, Option.map_some] at e
  cases hm : M[k]? with
  | none => rw [hm] at e; cases e
  | some y => rw [hm] at e; exact ⟨y, rfl, Option.some.inj e⟩
theorem nth_cells {w : World} {p : Option Addr} {n c : Nat} {M : List En} (h : Rd eJ w (.slice p n c) M) {k : Nat} {y : En} (hy : M[k]? = some y) : ∃ b off, p = some ⟨b, off, none⟩ ∧ b < w.heap.size ∧ w.cell? ⟨b, off + k * 7, none⟩ = some (.int .i64 y.j.vol) ∧ w.cell? ⟨b, off + k * 7 + 1, none⟩ = some (.int .i64 y.j.frag) ∧ w.cell? ⟨b, off + k * 7 + 2, none⟩ = some (.int .i64 y.j.cls) ∧ w.cell? ⟨b, off + k * 7 + 3, none⟩ = some (.bool false) ∧ w.cell? ⟨b, off + k * 7 + 4, none⟩ = some y.num ∧ w.cell? ⟨b, off + k * 7 + 5, none⟩ = some y.den ∧ w.cell? ⟨b, off + k * 7 + 6, none⟩ = some (.int .i64 y.j.rem) := by
  obtain ⟨b, off, e, hb, hc⟩ := h.cell hy
  exact ⟨b, off, e, hb, hc 0 _ rfl, hc 1 _ rfl, hc 2 _ rfl, hc 3 _ rfl, hc 4 _ rfl, hc 5 _ rfl, hc 6 _ rfl⟩











set_option maxRecDepth 20000 in
set_option maxHeartbeats 8000000 in
theorem urgent_law (a : Option Addr) (len cap : Nat) (F : Nat → Opc) (sl : Int) (w : World) (hF : Seq w (.slice a len cap) 7 len (fun i => (oc (F i)).toList)) (hB : ∀ i, i < len → OkOp (F i)) (h1 : -9223372036854775808 ≤ sl ∧ sl ≤ 9223372036854775807) :
    Calls Tryz.prog 6 #[.int .i64 sl, .slice a len cap] w fun e w' => e = .returned (.bool true) ∧ Below w.heap.size w w' := by
  by_cases h60 : 60 < len
  · go_enter Tryz.func6, Tryz.ntmps6
    go_wp2_with (go_at_call 11; (with_reducible refine (awake_any _).mono ?_); rintro e w1 ⟨rfl, hb⟩; have HB1 := Lib.hid hb; clear hb)
    go_ret
    exact ⟨rfl, HB1.out⟩
  · have HF := Lib.hid hF
    have HO := Lib.hid hB
    have hd : decide (60 < (len : Int)) = false := by simp; omega
    have hlen : len ≤ 60 := by omega
    obtain ⟨m, hm⟩ : ∃ m : Nat, sl % 4 = m := ⟨(sl % 4).toNat, by omega⟩
    have KW := Lib.hid (hm ▸ within_any sl 4 w (by omega) (by omega) h1.1 h1.2)
    obtain ⟨n, hn⟩ : ∃ n : Nat, m + 1 = n := ⟨_, rfl⟩
    have hn4 : n ≤ 4 := by omega
    have hn1 : 1 ≤ n := by omega
    have hni : 1 + (m : Int) = (n : Int) := by omega
    have hwn : IntKind.i64.wrap (n : Int) = (n : Int) := IntWalk.i64_in _ (by omega)
    have KN := fun w => Lib.hid (new_as (n := n) hn1 (by omega) w)
    clear hF hB h60 hm hn h1
    go_enter Tryz.func6, Tryz.ntmps6
    go_wp2_with (first
      | (go_at_call 19; (with_reducible refine KW.out.mono ?_); rintro e w1 ⟨rfl, rfl⟩)
      | (go_at_call 12; (with_reducible refine (KN _).out.mono ?_); rintro e w1 ⟨qb, rfl, hq, hb⟩; have HS := Lib.hid (show Su n qb w w1 [] [] (.slice none 0 0) from ⟨hq, In2.nil n, Qt.of_below hb _, Ow.begin hb⟩); clear hq hb))
    clear KW KN hni hwn
    go_loopw [8, 9] (fun v s wr => ∃ (k : Nat) (L : List En) (Sd : List Ky) (p : Option Addr) (N c : Nat), k ≤ len ∧ s = .int .i64 k ∧ v = .slice p N c ∧ N = Sd.length ∧ N ≤ k ∧ Hid (Su n qb w wr L Sd (.slice p N c))) (fun _ s _ => len - (intOf s).toNat)
    case atStart => exact ⟨0, [], [], none, 0, 0, by omega, rfl, rfl, rfl, by omega, HS⟩
    case round =>
      clear HS
      obtain ⟨k, L, Sd, p, N, c, hk, rfl, rfl, hN, hNk, HS⟩ := hrel
      rename World => wr
      by_cases hkn : k < len
      · obtain ⟨o, ho⟩ : ∃ o, F k = o := ⟨_, rfl⟩
        obtain ⟨a', cap', hv, hc1, hc2, hcell⟩ := HF.out
        cases hv
        obtain ⟨b, off, rfl, hbl, hc⟩ := hcell k hkn
        simp only [ho] at hc
        have hok : OkOp o := ho ▸ HO.out k hkn
        have hw := HS.out.t.below (Nat.le_refl _)
        have KJ : ∀ w, Hid (Calls Tryz.prog 7 #[ov o] w (JobPost w (jobF o))) := fun w => Lib.hid (job_any o hok w)
        have OKJ := Lib.hid (jobF_ok o)
        obtain ⟨j, hj⟩ : ∃ j, jobF o = j := ⟨_, rfl⟩
        rw [hj] at KJ OKJ
        obtain ⟨kd, ovo, ofr, ocl, ore, onu, ode⟩ := o
        have e0 := (hw.cell (p := ⟨b, off + k * 7, none⟩) hbl).trans (hc 0 _ rfl)
        have e1 := (hw.cell (p := ⟨b, off + k * 7 + 1, none⟩) hbl).trans (hc 1 _ rfl)
        have e2 := (hw.cell (p := ⟨b, off + k * 7 + 2, none⟩) hbl).trans (hc 2 _ rfl)
        have e3 := (hw.cell (p := ⟨b, off + k * 7 + 3, none⟩) hbl).trans (hc 3 _ rfl)
        have e4 := (hw.cell (p := ⟨b, off + k * 7 + 4, none⟩) hbl).trans (hc 4 _ rfl)
        have e5 := (hw.cell (p := ⟨b, off + k * 7 + 5, none⟩) hbl).trans (hc 5 _ rfl)
        have e6 := (hw.cell (p := ⟨b, off + k * 7 + 6, none⟩) hbl).trans (hc 6 _ rfl)
        have HC0 := Lib.hid (hc 0 _ rfl)
        have HBL := Lib.hid hbl
        have HNN := Lib.hid hN
        clear hcell ho hc hok hw hj hbl hN
        obtain ⟨j1, j2, j3, j4, n1, d1⟩ := j
        go_upto_block 2 with (go_at_call 7; (with_reducible refine (KJ _).out.mono ?_); rintro e w2 ⟨pa, pc, qa, qc, rfl, r1, r2, hb⟩; have hx := below_alloc w2 (.cells (jc ⟨j1, j2, j3, j4, n1, d1⟩ (.slice pa (limb n1).length pc) (.slice qa (limb d1).length qc)) 29); have HB2 := Lib.hid (hb.trans (hx.mono hb.size)); have HX := Lib.hid (Holds.new w2 (jc ⟨j1, j2, j3, j4, n1, d1⟩ (.slice pa (limb n1).length pc) (.slice qa (limb d1).length qc)) 29); have HXT := Lib.hid (TyB.new w2 (jc ⟨j1, j2, j3, j4, n1, d1⟩ (.slice pa (limb n1).length pc) (.slice qa (limb d1).length qc)) 29); have R1 := Lib.hid (r1.keep hx); have R2 := Lib.hid (r2.keep hx); have d0 := (((HS.out.t.keep HB2.out).below (Nat.le_refl _)).cell (p := ⟨b, off + k * 7, none⟩) HBL.out).trans HC0.out; clear hb hx r1 r2)
        clear d0 e0 e1 e2 e3 e4 e5 e6 KJ HC0 HBL
        go_cut [8, 11, 12] from 57 to 102 (fun s8 s11 s12 wx => ∃ (L1 : List En) (Sd1 : List Ky) (p1 : Option Addr) (N1 c1 : Nat), s8 = .slice p1 N1 c1 ∧ N1 = Sd1.length ∧ N1 ≤ k + 1 ∧ Hid (Su n qb w wx L1 Sd1 (.slice p1 N1 c1)))
        case first =>
          have HS2 := Lib.hid (HS.out.keep HB2.out)
          have HLL := Lib.hid HS.out.inv.kd.len
          obtain ⟨s0, s1, s2, s3, s4, s5, s6, -⟩ := HX.out.lay7
          clear HS
          by_cases hkd : kd = 2
          · have qk : (kd == 2) = true := by simpa using hkd
            clear hkd
            rcases idxF_cases (j1, j2) L with hi | ⟨i, hi, hil⟩
            · as_aux_lemma =>
                have HI := Lib.hid hi
                clear hi
                go_wp2_with (first
                  | (go_at_call 10; (with_reducible refine (rkey_as ⟨j1, j2, j3, j4, n1, d1⟩ _ _ _ _ _ _ _).mono ?_); rintro e w3 ⟨rfl, hb⟩; have HS3 := Lib.hid (HS2.out.keep hb); have HX3 := Lib.hid (HX.out.keep hb); have HXT3 := Lib.hid (HXT.out.keep hb); clear hb)
                  | (go_at_call 22; (with_reducible refine (remove_no (k := (j1, j2)) HS3.out.q (by have := HLL.out; omega) HI.out).mono ?_); rintro e w4 ⟨rfl, hb⟩; have HQ4 := Lib.hid (HS3.out.q.keep hb); have HT4 := Lib.hid (HS3.out.t.keep hb); have HSD4 := Lib.hid (HS3.out.sd.grow hb); have HX4 := Lib.hid (HX3.out.keep hb); have HXT4 := Lib.hid (HXT3.out.keep hb); clear hb s0 s1 s2 s3 s4 s5 s6))
                have HIN := Lib.hid (HS2.out.inv.remove_no HI.out)
                clear HS2 HS3 HX3 HXT3
                have HRL := Lib.hid (show Rl n qb w w4 L w2.heap.size (jc ⟨j1, j2, j3, j4, n1, d1⟩ (.slice pa (limb n1).length pc) (.slice qa (limb d1).length qc)) (.slice none 0 0) (.slice p N c) [] Sd from
                  ⟨HQ4.out, HT4.out, ⟨Ow.begin (HT4.out.below (Nat.le_refl _)), HSD4.out, (fun k hk => by cases hk), (fun k hk => (HSD4.out.row.lt k hk).1), (fun k hk => by cases hk), HSD4.out.below.size⟩, HX4.out, HXT4.out⟩)
                clear HQ4 HT4 HSD4 HX4 HXT4
                go_loopw [11, 12] (fun x y wx => ∃ (ii : Nat) (p1 : Option Addr) (N1 c1 : Nat), ii ≤ N ∧ y = .int .i64 ii ∧ x = .slice p1 N1 c1 ∧ N1 = (dropK (j1, j2) (Sd.take ii)).length ∧ Hid (Rl n qb w wx L w2.heap.size (jc ⟨j1, j2, j3, j4, n1, d1⟩ (.slice pa (limb n1).length pc) (.slice qa (limb d1).length qc)) (.slice p1 N1 c1) (.slice p N c) (dropK (j1, j2) (Sd.take ii)) Sd)) (fun _ y _ => N - (intOf y).toNat)
                case atStart => exact ⟨0, none, 0, 0, by omega, rfl, rfl, rfl, HRL⟩
                case round =>
                  clear HRL
                  obtain ⟨i2, p1, N1, c1, hi2, rfl, rfl, hN1, HRL⟩ := hrel
                  rename World => wx
                  by_cases hin : i2 < N
                  · obtain ⟨x, hx⟩ : ∃ x, Sd[i2]? = some x := ⟨Sd[i2]'(by have := HNN.out; omega), by simp⟩
                    obtain ⟨sb, so, hsp, hsb, x0, x1⟩ := (HRL.out.two.o2.rd (by have := HNN.out; omega)).key hx
                    cases hsp
                    have X0 := Lib.hid x0
                    have X1 := Lib.hid x1
                    have SB := Lib.hid hsb
                    have HFS := Lib.hid (filter_succ (k := (j1, j2)) hx)
                    have HFL := Lib.hid (show (dropK (j1, j2) (Sd.take i2)).length ≤ 100 by
                      have := dropK_len (j1, j2) (Sd.take i2)
                      rw [List.length_take] at this
                      omega)
                    subst hN1
                    have hcap := (HRL.out.two.o2.cap)
                    have hcp1 := hcap.1
                    have hcp2 := hcap.2.1
                    obtain ⟨x1', x2'⟩ := x
                    clear hx x0 x1 hsb hcap
                    by_cases e : (x1', x2') = ((j1, j2) : Ky)
                    · have hkd : ∀ w, (binOp .neq 33 (.agg #[.int .i64 x1', .int .i64 x2']) (.agg #[.int .i64 j1, .int .i64 j2])).run Tryz.prog w = .ok (.bool false) w := fun w => (neq_kv2 (x1', x2') (j1, j2) w).trans (by rw [decide_eq_true e]; rfl)
                      have HF2 := Lib.hid (show (dropK (j1, j2) (Sd.take (i2 + 1))) = (dropK (j1, j2) (Sd.take i2)) by rw [HFS.out, if_pos e, List.append_nil])
                      clear e HFS
                      go_wp2_with fail
                      (
                        refine wp_region_grow (Below wx.heap.size wx) (by kernel_rfl) (by kernel_rfl) (Below.refl _ _).drew ?_
                        repeat first
                                 | (apply gRow_plain
                                    · exact rfl
                                    · intro wg hg
                                      ((obtain ⟨t0, t1, t2, t3, t4, t5, t6, -⟩ := (HRL.out.box.keep hg).lay7; have z0 := (hg.cell (p := ⟨sb, so + i2 * 2, none⟩) SB.out).trans X0.out; have z1 := (hg.cell (p := ⟨sb, so + i2 * 2 + 1, none⟩) SB.out).trans X1.out))
                                      go_simp
                                      first
                                        | exact rfl
                                        | exact hg
                                        | exact ⟨hg, rfl⟩
                                        | ((first
| ((with_reducible refine (rkey_as ⟨j1, j2, j3, j4, n1, d1⟩ _ _ _ _ _ _ _).mono ?_); rintro e w' ⟨rfl, hb⟩; exact ⟨rfl, hg.trans (hb.mono hg.size)⟩)))
                                    intro K hK
                                    go_simp
                                    refine hK _ ?_
                                    clear hK K)
                                 | (apply gRow_step
                                    · go_simp; done
                                    · intro wg hg
                                      ((obtain ⟨t0, t1, t2, t3, t4, t5, t6, -⟩ := (HRL.out.box.keep hg).lay7; have z0 := (hg.cell (p := ⟨sb, so + i2 * 2, none⟩) SB.out).trans X0.out; have z1 := (hg.cell (p := ⟨sb, so + i2 * 2 + 1, none⟩) SB.out).trans X1.out))
                                      go_simp
                                      first
                                        | exact rfl
                                        | exact hg
                                        | exact ⟨hg, rfl⟩
                                        | ((first
| ((with_reducible refine (rkey_as ⟨j1, j2, j3, j4, n1, d1⟩ _ _ _ _ _ _ _).mono ?_); rintro e w' ⟨rfl, hb⟩; exact ⟨rfl, hg.trans (hb.mono hg.size)⟩)))
                                    intro K hK
                                    go_simp
                                    refine hK _ ?_
                                    clear hK K)
                                 | (apply gRow_not
                                    · go_simp; done
                                    intro K hK
                                    go_simp
                                    refine hK _ ?_
                                    clear hK K)
                        refine gRow_nil ?_
                        intro wy hbx
                        have HRL2 := Lib.hid (HRL.out.keep hbx))
                      go_wp2_with fail
                      go_roundw
                      case rel => exact ⟨i2 + 1, p1, _, c1, by omega, by go_num, rfl, by rw [HF2.out], Lib.hid (by rw [HF2.out]; exact HRL2.out)⟩
                      case measure => simp [intOf]; omega
                    · have hkd : ∀ w, (binOp .neq 33 (.agg #[.int .i64 x1', .int .i64 x2']) (.agg #[.int .i64 j1, .int .i64 j2])).run Tryz.prog w = .ok (.bool true) w := fun w => (neq_kv2 (x1', x2') (j1, j2) w).trans (by rw [decide_eq_false e]; rfl)
                      have HF2 := Lib.hid (show (dropK (j1, j2) (Sd.take (i2 + 1))) = (dropK (j1, j2) (Sd.take i2)) ++ [(x1', x2')] by rw [HFS.out, if_neg e])
                      clear e HFS
                      go_wp2_with fail
                      (
                        refine wp_region_grow (Below wx.heap.size wx) (by kernel_rfl) (by kernel_rfl) (Below.refl _ _).drew ?_
                        repeat first
                                 | (apply gRow_plain
                                    · exact rfl
                                    · intro wg hg
                                      ((obtain ⟨t0, t1, t2, t3, t4, t5, t6, -⟩ := (HRL.out.box.keep hg).lay7; have z0 := (hg.cell (p := ⟨sb, so + i2 * 2, none⟩) SB.out).trans X0.out; have z1 := (hg.cell (p := ⟨sb, so + i2 * 2 + 1, none⟩) SB.out).trans X1.out))
                                      go_simp
                                      first
                                        | exact rfl
                                        | exact hg
                                        | exact ⟨hg, rfl⟩
                                        | ((first
| ((with_reducible refine (rkey_as ⟨j1, j2, j3, j4, n1, d1⟩ _ _ _ _ _ _ _).mono ?_); rintro e w' ⟨rfl, hb⟩; exact ⟨rfl, hg.trans (hb.mono hg.size)⟩)))
                                    intro K hK
                                    go_simp
                                    refine hK _ ?_
                                    clear hK K)
                                 | (apply gRow_step
                                    · go_simp; done
                                    · intro wg hg
                                      ((obtain ⟨t0, t1, t2, t3, t4, t5, t6, -⟩ := (HRL.out.box.keep hg).lay7; have z0 := (hg.cell (p := ⟨sb, so + i2 * 2, none⟩) SB.out).trans X0.out; have z1 := (hg.cell (p := ⟨sb, so + i2 * 2 + 1, none⟩) SB.out).trans X1.out))
                                      go_simp
                                      first
                                        | exact rfl
                                        | exact hg
                                        | exact ⟨hg, rfl⟩
                                        | ((first
| ((with_reducible refine (rkey_as ⟨j1, j2, j3, j4, n1, d1⟩ _ _ _ _ _ _ _).mono ?_); rintro e w' ⟨rfl, hb⟩; exact ⟨rfl, hg.trans (hb.mono hg.size)⟩)))
                                    intro K hK
                                    go_simp
                                    refine hK _ ?_
                                    clear hK K)
                                 | (apply gRow_not
                                    · go_simp; done
                                    intro K hK
                                    go_simp
                                    refine hK _ ?_
                                    clear hK K)
                        refine gRow_nil ?_
                        intro wy hbx
                        have HRL2 := Lib.hid (HRL.out.keep hbx))
                      have hz0 := (hbx.cell (p := ⟨sb, so + i2 * 2, none⟩) SB.out).trans X0.out
                      have hz1 := (hbx.cell (p := ⟨sb, so + i2 * 2 + 1, none⟩) SB.out).trans X1.out
                      clear hbx
                      go_wp2_with (at_builtin; refine wpList_push elt42 (E := eK) (x := (x1', x2')) _ _ rfl rfl rfl rfl rfl HRL2.out.two.o1 (by have := HFL.out; omega) ?_; intro p3 c3 w3 HO3 HG3)
                      have hxx := below_alloc wy (.cells (eK.f (x1', x2')).toArray 33)
                      have HRL3 := Lib.hid ((HRL2.out.keep hxx).push HO3.out HG3.out)
                      clear hxx
                      go_roundw
                      case rel => exact ⟨i2 + 1, p3, _, c3, by omega, by go_num, rfl, by rw [HF2.out, List.length_append]; rfl, Lib.hid (by rw [HF2.out]; exact HRL3.out)⟩
                      case measure => simp [intOf]; omega
                  · obtain rfl : i2 = N := by omega
                    have HSF := Lib.hid (show Su n qb w wx L (dropK (j1, j2) Sd) (.slice p1 N1 c1) from ⟨HRL.out.q, HIN.out, HRL.out.t, by
                      have := HRL.out.two.o1
                      rwa [HNN.out, List.take_length] at this⟩)
                    have HNF := Lib.hid (show N1 = (dropK (j1, j2) Sd).length by rw [hN1, HNN.out, List.take_length])
                    have HNG := Lib.hid (show (dropK (j1, j2) Sd).length ≤ i2 by rw [HNN.out]; exact dropK_len _ _)
                    clear hN1 HRL
                    go_wp2_with fail
                    go_meet
                    case rel => exact ⟨_, _, p1, N1, c1, rfl, HNF.out, by have := HNF.out; have := HNG.out; omega, HSF⟩
  
            · as_aux_lemma =>
                have HI := Lib.hid hi
                obtain ⟨x, hx, hxk⟩ := idxF_spec hi
                have HIN := Lib.hid (HS2.out.inv.remove hx hxk)
                clear hi hx hxk
                go_wp2_with (first
                  | (go_at_call 10; (with_reducible refine (rkey_as ⟨j1, j2, j3, j4, n1, d1⟩ _ _ _ _ _ _ _).mono ?_); rintro e w3 ⟨rfl, hb⟩; have HS3 := Lib.hid (HS2.out.keep hb); have HX3 := Lib.hid (HX.out.keep hb); have HXT3 := Lib.hid (HXT.out.keep hb); clear hb)
                  | (go_at_call 22; (with_reducible refine (remove_yes (k := (j1, j2)) HS3.out.q (by have := HLL.out; omega) HI.out).mono ?_); rintro e w4 ⟨rfl, hq, ht⟩; have HQ4 := Lib.hid hq; have HT4 := Lib.hid (HS3.out.t.trans ht); have HSD4 := Lib.hid (ow_qt HS3.out.sd ht); have HX4 := Lib.hid (holds_qt HX3.out HXT3.out ht); have HXT4 := Lib.hid (ht.ty _ 29 (by decide) HXT3.out); clear hq ht s0 s1 s2 s3 s4 s5 s6))
                clear HS2 HS3 HX3 HXT3
                have HRL := Lib.hid (show Rl n qb w w4 (L.eraseIdx i) w2.heap.size (jc ⟨j1, j2, j3, j4, n1, d1⟩ (.slice pa (limb n1).length pc) (.slice qa (limb d1).length qc)) (.slice none 0 0) (.slice p N c) [] Sd from
                  ⟨HQ4.out, HT4.out, ⟨Ow.begin (HT4.out.below (Nat.le_refl _)), HSD4.out, (fun k hk => by cases hk), (fun k hk => (HSD4.out.row.lt k hk).1), (fun k hk => by cases hk), HSD4.out.below.size⟩, HX4.out, HXT4.out⟩)
                clear HQ4 HT4 HSD4 HX4 HXT4
                go_loopw [11, 12] (fun x y wx => ∃ (ii : Nat) (p1 : Option Addr) (N1 c1 : Nat), ii ≤ N ∧ y = .int .i64 ii ∧ x = .slice p1 N1 c1 ∧ N1 = (dropK (j1, j2) (Sd.take ii)).length ∧ Hid (Rl n qb w wx (L.eraseIdx i) w2.heap.size (jc ⟨j1, j2, j3, j4, n1, d1⟩ (.slice pa (limb n1).length pc) (.slice qa (limb d1).length qc)) (.slice p1 N1 c1) (.slice p N c) (dropK (j1, j2) (Sd.take ii)) Sd)) (fun _ y _ => N - (intOf y).toNat)
                case atStart => exact ⟨0, none, 0, 0, by omega, rfl, rfl, rfl, HRL⟩
                case round =>
                  clear HRL
                  obtain ⟨i2, p1, N1, c1, hi2, rfl, rfl, hN1, HRL⟩ := hrel
                  rename World => wx
                  by_cases hin : i2 < N
                  · obtain ⟨x, hx⟩ : ∃ x, Sd[i2]? = some x := ⟨Sd[i2]'(by have := HNN.out; omega), by simp⟩
                    obtain ⟨sb, so, hsp, hsb, x0, x1⟩ := (HRL.out.two.o2.rd (by have := HNN.out; omega)).key hx
                    cases hsp
                    have X0 := Lib.hid x0
                    have X1 := Lib.hid x1
                    have SB := Lib.hid hsb
                    have HFS := Lib.hid (filter_succ (k := (j1, j2)) hx)
                    have HFL := Lib.hid (show (dropK (j1, j2) (Sd.take i2)).length ≤ 100 by
                      have := dropK_len (j1, j2) (Sd.take i2)
                      rw [List.length_take] at this
                      omega)
                    subst hN1
                    have hcap := (HRL.out.two.o2.cap)
                    have hcp1 := hcap.1
                    have hcp2 := hcap.2.1
                    obtain ⟨x1', x2'⟩ := x
                    clear hx x0 x1 hsb hcap
                    by_cases e : (x1', x2') = ((j1, j2) : Ky)
                    · have hkd : ∀ w, (binOp .neq 33 (.agg #[.int .i64 x1', .int .i64 x2']) (.agg #[.int .i64 j1, .int .i64 j2])).run Tryz.prog w = .ok (.bool false) w := fun w => (neq_kv2 (x1', x2') (j1, j2) w).trans (by rw [decide_eq_true e]; rfl)
                      have HF2 := Lib.hid (show (dropK (j1, j2) (Sd.take (i2 + 1))) = (dropK (j1, j2) (Sd.take i2)) by rw [HFS.out, if_pos e, List.append_nil])
                      clear e HFS
                      go_wp2_with fail
                      (
                        refine wp_region_grow (Below wx.heap.size wx) (by kernel_rfl) (by kernel_rfl) (Below.refl _ _).drew ?_
                        repeat first
                                 | (apply gRow_plain
                                    · exact rfl
                                    · intro wg hg
                                      ((obtain ⟨t0, t1, t2, t3, t4, t5, t6, -⟩ := (HRL.out.box.keep hg).lay7; have z0 := (hg.cell (p := ⟨sb, so + i2 * 2, none⟩) SB.out).trans X0.out; have z1 := (hg.cell (p := ⟨sb, so + i2 * 2 + 1, none⟩) SB.out).trans X1.out))
                                      go_simp
                                      first
                                        | exact rfl
                                        | exact hg
                                        | exact ⟨hg, rfl⟩
                                        | ((first
| ((with_reducible refine (rkey_as ⟨j1, j2, j3, j4, n1, d1⟩ _ _ _ _ _ _ _).mono ?_); rintro e w' ⟨rfl, hb⟩; exact ⟨rfl, hg.trans (hb.mono hg.size)⟩)))
                                    intro K hK
                                    go_simp
                                    refine hK _ ?_
                                    clear hK K)
                                 | (apply gRow_step
                                    · go_simp; done
                                    · intro wg hg
                                      ((obtain ⟨t0, t1, t2, t3, t4, t5, t6, -⟩ := (HRL.out.box.keep hg).lay7; have z0 := (hg.cell (p := ⟨sb, so + i2 * 2, none⟩) SB.out).trans X0.out; have z1 := (hg.cell (p := ⟨sb, so + i2 * 2 + 1, none⟩) SB.out).trans X1.out))
                                      go_simp
                                      first
                                        | exact rfl
                                        | exact hg
                                        | exact ⟨hg, rfl⟩
                                        | ((first
| ((with_reducible refine (rkey_as ⟨j1, j2, j3, j4, n1, d1⟩ _ _ _ _ _ _ _).mono ?_); rintro e w' ⟨rfl, hb⟩; exact ⟨rfl, hg.trans (hb.mono hg.size)⟩)))
                                    intro K hK
                                    go_simp
                                    refine hK _ ?_
                                    clear hK K)
                                 | (apply gRow_not
                                    · go_simp; done
                                    intro K hK
                                    go_simp
                                    refine hK _ ?_
                                    clear hK K)
                        refine gRow_nil ?_
                        intro wy hbx
                        have HRL2 := Lib.hid (HRL.out.keep hbx))
                      go_wp2_with fail
                      go_roundw
                      case rel => exact ⟨i2 + 1, p1, _, c1, by omega, by go_num, rfl, by rw [HF2.out], Lib.hid (by rw [HF2.out]; exact HRL2.out)⟩
                      case measure => simp [intOf]; omega
                    · have hkd : ∀ w, (binOp .neq 33 (.agg #[.int .i64 x1', .int .i64 x2']) (.agg #[.int .i64 j1, .int .i64 j2])).run Tryz.prog w = .ok (.bool true) w := fun w => (neq_kv2 (x1', x2') (j1, j2) w).trans (by rw [decide_eq_false e]; rfl)
                      have HF2 := Lib.hid (show (dropK (j1, j2) (Sd.take (i2 + 1))) = (dropK (j1, j2) (Sd.take i2)) ++ [(x1', x2')] by rw [HFS.out, if_neg e])
                      clear e HFS
                      go_wp2_with fail
                      (
                        refine wp_region_grow (Below wx.heap.size wx) (by kernel_rfl) (by kernel_rfl) (Below.refl _ _).drew ?_
                        repeat first
                                 | (apply gRow_plain
                                    · exact rfl
                                    · intro wg hg
                                      ((obtain ⟨t0, t1, t2, t3, t4, t5, t6, -⟩ := (HRL.out.box.keep hg).lay7; have z0 := (hg.cell (p := ⟨sb, so + i2 * 2, none⟩) SB.out).trans X0.out; have z1 := (hg.cell (p := ⟨sb, so + i2 * 2 + 1, none⟩) SB.out).trans X1.out))
                                      go_simp
                                      first
                                        | exact rfl
                                        | exact hg
                                        | exact ⟨hg, rfl⟩
                                        | ((first
| ((with_reducible refine (rkey_as ⟨j1, j2, j3, j4, n1, d1⟩ _ _ _ _ _ _ _).mono ?_); rintro e w' ⟨rfl, hb⟩; exact ⟨rfl, hg.trans (hb.mono hg.size)⟩)))
                                    intro K hK
                                    go_simp
                                    refine hK _ ?_
                                    clear hK K)
                                 | (apply gRow_step
                                    · go_simp; done
                                    · intro wg hg
                                      ((obtain ⟨t0, t1, t2, t3, t4, t5, t6, -⟩ := (HRL.out.box.keep hg).lay7; have z0 := (hg.cell (p := ⟨sb, so + i2 * 2, none⟩) SB.out).trans X0.out; have z1 := (hg.cell (p := ⟨sb, so + i2 * 2 + 1, none⟩) SB.out).trans X1.out))
                                      go_simp
                                      first
                                        | exact rfl
                                        | exact hg
                                        | exact ⟨hg, rfl⟩
                                        | ((first
| ((with_reducible refine (rkey_as ⟨j1, j2, j3, j4, n1, d1⟩ _ _ _ _ _ _ _).mono ?_); rintro e w' ⟨rfl, hb⟩; exact ⟨rfl, hg.trans (hb.mono hg.size)⟩)))
                                    intro K hK
                                    go_simp
                                    refine hK _ ?_
                                    clear hK K)
                                 | (apply gRow_not
                                    · go_simp; done
                                    intro K hK
                                    go_simp
                                    refine hK _ ?_
                                    clear hK K)
                        refine gRow_nil ?_
                        intro wy hbx
                        have HRL2 := Lib.hid (HRL.out.keep hbx))
                      have hz0 := (hbx.cell (p := ⟨sb, so + i2 * 2, none⟩) SB.out).trans X0.out
                      have hz1 := (hbx.cell (p := ⟨sb, so + i2 * 2 + 1, none⟩) SB.out).trans X1.out
                      clear hbx
                      go_wp2_with (at_builtin; refine wpList_push elt42 (E := eK) (x := (x1', x2')) _ _ rfl rfl rfl rfl rfl HRL2.out.two.o1 (by have := HFL.out; omega) ?_; intro p3 c3 w3 HO3 HG3)
                      have hxx := below_alloc wy (.cells (eK.f (x1', x2')).toArray 33)
                      have HRL3 := Lib.hid ((HRL2.out.keep hxx).push HO3.out HG3.out)
                      clear hxx
                      go_roundw
                      case rel => exact ⟨i2 + 1, p3, _, c3, by omega, by go_num, rfl, by rw [HF2.out, List.length_append]; rfl, Lib.hid (by rw [HF2.out]; exact HRL3.out)⟩
                      case measure => simp [intOf]; omega
                  · obtain rfl : i2 = N := by omega
                    have HSF := Lib.hid (show Su n qb w wx (L.eraseIdx i) (dropK (j1, j2) Sd) (.slice p1 N1 c1) from ⟨HRL.out.q, HIN.out, HRL.out.t, by
                      have := HRL.out.two.o1
                      rwa [HNN.out, List.take_length] at this⟩)
                    have HNF := Lib.hid (show N1 = (dropK (j1, j2) Sd).length by rw [hN1, HNN.out, List.take_length])
                    have HNG := Lib.hid (show (dropK (j1, j2) Sd).length ≤ i2 by rw [HNN.out]; exact dropK_len _ _)
                    clear hN1 HRL
                    go_wp2_with fail
                    go_meet
                    case rel => exact ⟨_, _, p1, N1, c1, rfl, HNF.out, by have := HNF.out; have := HNG.out; omega, HSF⟩
  
          · have qk : (kd == 2) = false := by simpa using hkd
            clear hkd
            by_cases hk3 : kd = 3
            · have qk3 : (kd == 3) = true := by simpa using hk3
              clear hk3
              have HIV := Lib.hid HS2.out.inv
              rcases idxF_cases (j1, j2) L with hi | ⟨i, hi, hil⟩
              · as_aux_lemma =>
                  have KP : ∀ wz, Hid (Su n qb w wz L Sd (.slice p N c) → Calls Tryz.prog 23 #[.pointer (some ⟨qb, 0, none⟩), kv (j1, j2)] wz fun e w' => e = .returned (.int .i64 110) ∧ Below wz.heap.size wz w') := fun wz => Lib.hid fun h => held_no h.q (by have := HLL.out; omega) hi
                  clear hi
                  (
                    go_wp2_with (first
                      | (
                          go_at_call 10
                          (with_reducible refine (rkey_as ⟨j1, j2, j3, j4, n1, d1⟩ _ _ _ _ _ _ _).mono ?_)
                          have _t := HS2
                          rintro e w3 ⟨rfl, hb⟩
                          have HS3 := Lib.hid (HS2.out.keep hb)
                          have HX3 := Lib.hid (HX.out.keep hb)
                          have HXT3 := Lib.hid (HXT.out.keep hb)
                          clear hb HS2 _t)
                      | (go_at_call 23; (with_reducible refine ((KP _).out HS3.out).mono ?_); rintro e w4 ⟨rfl, hb⟩; have HS4 := Lib.hid (HS3.out.keep hb); clear hb))
                    go_meet
                    case rel => exact ⟨L, Sd, p, N, c, rfl, HNN.out, by omega, HS4⟩)
              · as_aux_lemma =>
                  obtain ⟨x, hx, hxk⟩ := idxF_spec hi
                  cases hr : x.run with
                  | false =>
                    have KP : ∀ wz, Hid (Su n qb w wz L Sd (.slice p N c) → Calls Tryz.prog 23 #[.pointer (some ⟨qb, 0, none⟩), kv (j1, j2)] wz fun e w' => e = .returned (.int .i64 110) ∧ Below wz.heap.size wz w') := fun wz => Lib.hid fun h => held_off h.q (by have := HLL.out; omega) hi hx hr
                    clear hi hx hxk hr
                    (
                      go_wp2_with (first
                        | (
                            go_at_call 10
                            (with_reducible refine (rkey_as ⟨j1, j2, j3, j4, n1, d1⟩ _ _ _ _ _ _ _).mono ?_)
                            have _t := HS2
                            rintro e w3 ⟨rfl, hb⟩
                            have HS3 := Lib.hid (HS2.out.keep hb)
                            have HX3 := Lib.hid (HX.out.keep hb)
                            have HXT3 := Lib.hid (HXT.out.keep hb)
                            clear hb HS2 _t)
                        | (go_at_call 23; (with_reducible refine ((KP _).out HS3.out).mono ?_); rintro e w4 ⟨rfl, hb⟩; have HS4 := Lib.hid (HS3.out.keep hb); clear hb))
                      go_meet
                      case rel => exact ⟨L, Sd, p, N, c, rfl, HNN.out, by omega, HS4⟩)
                  | true =>
                    have KP : ∀ wz, Hid (Su n qb w wz L Sd (.slice p N c) → Calls Tryz.prog 23 #[.pointer (some ⟨qb, 0, none⟩), kv (j1, j2)] wz (QueuePost w.heap.size qb n (L.set i { x with held := true }) 0 wz)) := fun wz => Lib.hid fun h => held_on h.q (by have := HLL.out; omega) hi hx hr
                    have HXX := Lib.hid hx
                    have HXK := Lib.hid hxk
                    have HXR := Lib.hid hr
                    have KI : ∀ (wz : World), Hid (Rd eK wz (.slice p N c) Sd → ∀ r, decide ((j1, j2) ∈ Sd) = r → Calls Tryz.prog 24 #[.slice p N c, kv (j1, j2)] wz fun e w' => e = .returned (.bool r) ∧ Below wz.heap.size wz w') := fun wz => Lib.hid fun h r hr => in_as (j1, j2) h hr
                    clear hi hx hxk hr hil
                    cases hm : decide ((j1, j2) ∈ Sd) with
                    | true =>
                      have HMM := Lib.hid hm
                      have HMI := Lib.hid (of_decide_eq_true hm)
                      clear hm
                      go_wp2_with (first
                        | (
                            go_at_call 10
                            (with_reducible refine (rkey_as ⟨j1, j2, j3, j4, n1, d1⟩ _ _ _ _ _ _ _).mono ?_)
                            have _t := HS2
                            rintro e w3 ⟨rfl, hb⟩
                            have HS3 := Lib.hid (HS2.out.keep hb)
                            have HX3 := Lib.hid (HX.out.keep hb)
                            have HXT3 := Lib.hid (HXT.out.keep hb)
                            clear hb HS2 _t)
                        | (
                            go_at_call 23
                            (with_reducible refine ((KP _).out HS3.out).mono ?_)
                            rintro e w4 ⟨rfl, hq, ht⟩
                            have HQ4 := Lib.hid hq
                            have HT4 := Lib.hid (HS3.out.t.trans ht)
                            have HSD4 := Lib.hid (ow_qt HS3.out.sd ht)
                            have HX4 := Lib.hid (holds_qt HX3.out HXT3.out ht)
                            clear hq ht s0 s1 s2 s3 s4 s5 s6
                            obtain ⟨s0, s1, s2, s3, s4, s5, s6, -⟩ := HX4.out.lay7
                            have TOK2 := Lib.hid True.intro)
                        | (
                            go_at_call 10
                            have _t := TOK2
                            (with_reducible refine (rkey_as ⟨j1, j2, j3, j4, n1, d1⟩ _ _ _ _ _ _ _).mono ?_)
                            rintro e w5 ⟨rfl, hb⟩
                            have HQ5 := Lib.hid (HQ4.out.keep hb)
                            have HT5 := Lib.hid (HT4.out.keep hb)
                            have HSD5 := Lib.hid (HSD4.out.grow hb)
                            have HRD5 := Lib.hid (HSD5.out.rd (by have := HNN.out; omega))
                            have HX5 := Lib.hid (HX4.out.keep hb)
                            clear hb TOK2 _t)
                        | (go_at_call 24; (with_reducible refine ((KI _).out HRD5.out _ HMM.out).mono ?_); rintro e w6 ⟨rfl, hb⟩; have HQ6 := Lib.hid (HQ5.out.keep hb); have HT6 := Lib.hid (HT5.out.keep hb); have HSD6 := Lib.hid (HSD5.out.grow hb); clear hb))
                      go_meet
                      case rel => exact ⟨_, Sd, p, N, c, rfl, HNN.out, by omega, Lib.hid ⟨HQ6.out, HIV.out.hold HXX.out HXR.out (fun q => ⟨.inl, fun h => h.elim id (fun e => by rw [e, HXK.out]; exact HMI.out)⟩), HT6.out, HSD6.out⟩⟩
                    | false =>
                      have HMM := Lib.hid hm
                      have HNL := Lib.hid (show Sd.length ≤ 100 by have := HNN.out; omega)
                      clear hm
                      go_wp2_with (first
                        | (
                            go_at_call 10
                            (with_reducible refine (rkey_as ⟨j1, j2, j3, j4, n1, d1⟩ _ _ _ _ _ _ _).mono ?_)
                            have _t := HS2
                            rintro e w3 ⟨rfl, hb⟩
                            have HS3 := Lib.hid (HS2.out.keep hb)
                            have HX3 := Lib.hid (HX.out.keep hb)
                            have HXT3 := Lib.hid (HXT.out.keep hb)
                            clear hb HS2 _t)
                        | (
                            go_at_call 23
                            (with_reducible refine ((KP _).out HS3.out).mono ?_)
                            rintro e w4 ⟨rfl, hq, ht⟩
                            have HQ4 := Lib.hid hq
                            have HT4 := Lib.hid (HS3.out.t.trans ht)
                            have HSD4 := Lib.hid (ow_qt HS3.out.sd ht)
                            have HX4 := Lib.hid (holds_qt HX3.out HXT3.out ht)
                            clear hq ht s0 s1 s2 s3 s4 s5 s6
                            obtain ⟨s0, s1, s2, s3, s4, s5, s6, -⟩ := HX4.out.lay7
                            have TOK2 := Lib.hid True.intro)
                        | (
                            go_at_call 10
                            have _t := TOK2
                            (with_reducible refine (rkey_as ⟨j1, j2, j3, j4, n1, d1⟩ _ _ _ _ _ _ _).mono ?_)
                            rintro e w5 ⟨rfl, hb⟩
                            have HQ5 := Lib.hid (HQ4.out.keep hb)
                            have HT5 := Lib.hid (HT4.out.keep hb)
                            have HSD5 := Lib.hid (HSD4.out.grow hb)
                            have HRD5 := Lib.hid (HSD5.out.rd (by have := HNN.out; omega))
                            have HX5 := Lib.hid (HX4.out.keep hb)
                            clear hb TOK2 _t)
                        | (go_at_call 24; (with_reducible refine ((KI _).out HRD5.out _ HMM.out).mono ?_); rintro e w6 ⟨rfl, hb⟩; have HQ6 := Lib.hid (HQ5.out.keep hb); have HT6 := Lib.hid (HT5.out.keep hb); have HSD6 := Lib.hid (HSD5.out.grow hb); have HX6 := Lib.hid (HX5.out.keep hb); clear s0 s1 s2 s3 s4 s5 s6; obtain ⟨s0, s1, s2, s3, s4, s5, s6, -⟩ := HX6.out.lay7; have TOK3 := Lib.hid True.intro; clear hb)
                        | (go_at_call 10; have _t := TOK3; (with_reducible refine (rkey_as ⟨j1, j2, j3, j4, n1, d1⟩ _ _ _ _ _ _ _).mono ?_); rintro e w7 ⟨rfl, hb⟩; have HQ7 := Lib.hid (HQ6.out.keep hb); have HT7 := Lib.hid (HT6.out.keep hb); have HSD7 := Lib.hid (HSD6.out.grow hb); rw [HNN.out] at HSD7 ⊢; clear hb TOK3 _t)
                        | (at_builtin; refine wpList_push elt42 (E := eK) (x := (j1, j2)) _ _ rfl rfl rfl rfl rfl HSD7.out (by have := HNL.out; omega) ?_; intro p8 c8 w8 HO8 HG8))
                      go_meet
                      case rel =>
                        have hxx := below_alloc w7 (.cells (eK.f (j1, j2)).toArray 33)
                        have hsr := (HSD7.out.grow hxx).row
                        exact ⟨_, Sd ++ [(j1, j2)], p8, Sd.length + 1, c8, rfl, by simp, by have := HNN.out; omega, Lib.hid ⟨(HQ7.out.keep hxx).grown hsr (by decide) (by decide) (by decide) HG8.out.by_, HIV.out.hold HXX.out HXR.out (fun q => by rw [List.mem_append, List.mem_singleton, HXK.out]), (HT7.out.keep hxx).grown HG8.out.by_ (fun k hk => (HSD7.out.row.lt k hk).1), HO8.out⟩⟩
            · have qk3 : (kd == 3) = false := by simpa using hk3
              clear hk3
              have HIV := Lib.hid HS2.out.inv
              have HSZ := Lib.hid HS2.out.t.size
              rcases idxF_cases (j1, j2) L with hi | ⟨i, hi, hil⟩
              · as_aux_lemma =>
                  have KP := Lib.hid (put_new (j := ⟨j1, j2, j3, j4, n1, d1⟩) HS2.out.q HSZ.out (by have := HLL.out; omega) OKJ.out R1.out R2.out hi)
                  have HI := Lib.hid hi
                  clear hi
                  go_wp2_with ((go_at_call 16; (with_reducible refine KP.out.mono ?_); rintro e w4 ⟨rfl, y, L', y1, y2, y3, hp, hs, hq, ht⟩; have HS4 := Lib.hid (HS2.out.turn hq ht (HIV.out.put_new (y := y) (by rw [En.key, y1]; exact HI.out) (by rw [y1]; exact OKJ.out) y2 y3 hp hs)); clear hp hs hq ht y1 y2 y3))
                  go_meet
                  case rel => exact ⟨L', Sd, p, N, c, rfl, HNN.out, by omega, HS4⟩
              · as_aux_lemma =>
                  obtain ⟨x, hx, hxk⟩ := idxF_spec hi
                  have KP := Lib.hid (put_old (j := ⟨j1, j2, j3, j4, n1, d1⟩) HS2.out.q HSZ.out (by have := HLL.out; omega) OKJ.out R1.out R2.out hi hx)
                  have HXX := Lib.hid hx
                  have HXK := Lib.hid hxk
                  clear hi hx hxk hil
                  go_wp2_with ((go_at_call 16; (with_reducible refine KP.out.mono ?_); rintro e w4 ⟨rfl, y, L', y1, y2, y3, hp, hs, hq, ht⟩; have HS4 := Lib.hid (HS2.out.turn hq ht (HIV.out.put_old (y := y) HXX.out (by rw [HXK.out, En.key, y1]) (by rw [y1]; exact OKJ.out) y2 y3 hp hs)); clear hp hs hq ht y1 y2 y3))
                  go_meet
                  case rel => exact ⟨L', Sd, p, N, c, rfl, HNN.out, by omega, HS4⟩
        case rest =>
          clear HS HX HXT HB2 R1 R2 OKJ HNN
          rename World => wc
          obtain ⟨L1, Sd1, p1, N1, c1, rfl, hN1, hNk1, HS1⟩ := hcut
          have HN1 := Lib.hid hN1
          clear hN1
          obtain ⟨r, hr⟩ : ∃ r : Nat, k % 3 = r := ⟨_, rfl⟩
          have hr1 : (k : Int) % 3 = (r : Int) := by omega
          have hr2 : (k : Int).tmod 3 = (r : Int) := by rw [Int.tmod_eq_emod_of_nonneg (by omega)]; omega
          by_cases h2 : r = 2
          · have q2 : ((r : Int) != 2) = false := by simp; omega
            clear hr h2
            have HLN := Lib.hid HS1.out.inv.kd.len
            have KSC := Lib.hid (schedule_as HS1.out.q HS1.out.t.size (by have := HLN.out; omega) (by omega) (by omega))
            have HI2 := Lib.hid HS1.out.inv.sch
            have HCT := Lib.hid HS1.out.inv.count
            have HLS := Lib.hid (schL_len L1 (slotsL n L1))
            obtain ⟨L2, hL2⟩ : ∃ L2, schL (slotsL n L1) L1 = L2 := ⟨_, rfl⟩
            have HL2 := Lib.hid hL2
            have HOR := Lib.hid (sch_order L1 (slotsL n L1))
            rw [hL2] at HI2 HCT HLS HOR
            unfold SchedPost at KSC
            rw [hL2] at KSC
            clear hL2
            obtain ⟨N, hN⟩ : ∃ N, L2.length = N := ⟨_, rfl⟩
            have HNN := Lib.hid hN
            clear hN
            have HN9 := Lib.hid HI2.out.kd.len
            have hN9 : N ≤ 9 := by rw [← HNN.out]; exact HN9.out
            go_wp2_with (first
              | (go_at_call 25; (with_reducible refine KSC.out.mono ?_); rintro e w3 ⟨x1, S', x2, x3, P', x4, rfl, -, -, -, -, hq, ht⟩; have HS3 := Lib.hid (HS1.out.turn hq ht HI2.out); have KRU := Lib.hid (running_as HS3.out.q (by have := HN9.out; omega)); clear hq ht)
              | (go_at_call 18; (with_reducible refine KRU.out.mono ?_); rintro e w4 ⟨pr, cr, K, rfl, hp, hs, hr, hb⟩; obtain ⟨R, hR⟩ : ∃ R, K.length = R := ⟨_, rfl⟩; rw [hR] at hr ⊢; have HKR := Lib.hid hR; have HKP := Lib.hid hp; have HKS := Lib.hid hs; have HRK := Lib.hid hr; have HS4 := Lib.hid (HS3.out.keep hb); have KJO := Lib.hid (jobs_as HS4.out.q (by have := HN9.out; omega)); have hRR : min (n : Int) (N : Int) = (R : Int) := (by have e1 := HKR.out; rw [HKP.out.length_eq] at e1; unfold keysP at e1; rw [List.length_map, HCT.out, ← HLS.out, HNN.out] at e1; omega); clear hp hs hr hb hR)
              | (go_at_call 17; (with_reducible refine KJO.out.mono ?_); rintro e w5 ⟨pj, cj, M, rfl, hr, hj, hb⟩; rw [HNN.out] at hr ⊢; have HRJ := Lib.hid hr; have HJ := Lib.hid hj; have HRK5 := Lib.hid (HRK.out.keep hb); have HS5 := Lib.hid (HS4.out.keep hb); clear hr hj hb))
            clear hr1 hr2 q2
            have HSD5 := Lib.hid (HS5.out.sd.rd (by have := HN1.out; omega))
            go_loopw [15, 16] (fun x y wx => ∃ (kk : Nat) (wv : Bool), kk ≤ N ∧ y = .int .i64 kk ∧ x = .bool wv ∧ Hid (wv = waitsB L2 kk) ∧ Hid (Below w5.heap.size w5 wx)) (fun _ y _ => N - (intOf y).toNat)
            case atStart => exact ⟨0, false, by omega, rfl, rfl, Lib.hid rfl, Lib.hid (Below.refl _ _)⟩
            case round =>
              obtain ⟨kk, wv, hkk, rfl, rfl, HWV, HBw⟩ := hrel
              rename World => wx
              by_cases hkN : kk < N
              · obtain ⟨x, hx⟩ : ∃ x, L2[kk]? = some x := ⟨L2[kk]'(by have := HNN.out; omega), by simp⟩
                have hxm := List.mem_of_getElem? hx
                obtain ⟨⟨yj, yna, ync, yda, ydc, yrr, yhh⟩, hy, hyj⟩ := nth_job HJ.out.eq hx
                obtain rfl : yj = x.j := hyj
                obtain ⟨ab, ao, hsp, abl, q0, q1, q2, q3, q4, q5, q6⟩ := nth_cells HRJ.out.rd hy
                cases hsp
                have hfy := HJ.out.frac _ (List.mem_of_getElem? hy)
                have HWS := Lib.hid (waits_succ hx)
                have hin1 : decide (x.key ∈ Sd1) = x.held := by
                  cases hh : x.held with
                  | true => exact decide_eq_true ((HI2.out.mem_held hxm).2 hh)
                  | false => exact decide_eq_false fun h => by rw [(HI2.out.mem_held hxm).1 h] at hh; cases hh
                have hin2 : decide (x.key ∈ K) = x.run := by
                  have e : x.key ∈ K ↔ x.run = true := (HKP.out.mem_iff).trans (mem_run HI2.out.kd hxm)
                  cases hh : x.run with
                  | true => exact decide_eq_true (e.2 hh)
                  | false => exact decide_eq_false fun h => by rw [e.1 h] at hh; cases hh
                have hno : x.held = true → x.run = true := HI2.out.hr x hxm
                have hwn : x.run = true → x.held = false → waitsB L2 kk = false := waits_not HOR.out hx
                have OX := Lib.hid (HI2.out.kd.ok x hxm)
                have HXN := Lib.hid hfy.1
                have HXD := Lib.hid hfy.2
                have A0 := Lib.hid q0
                have A1 := Lib.hid q1
                have A2 := Lib.hid q2
                have A3 := Lib.hid q3
                have A4 := Lib.hid q4
                have A5 := Lib.hid q5
                have A6 := Lib.hid q6
                have AB := Lib.hid abl
                have r0 := (HBw.out.cell (p := ⟨ab, ao + kk * 7, none⟩) abl).trans q0
                have r1 := (HBw.out.cell (p := ⟨ab, ao + kk * 7 + 1, none⟩) abl).trans q1
                have r2 := (HBw.out.cell (p := ⟨ab, ao + kk * 7 + 2, none⟩) abl).trans q2
                have r3 := (HBw.out.cell (p := ⟨ab, ao + kk * 7 + 3, none⟩) abl).trans q3
                have r4 := (HBw.out.cell (p := ⟨ab, ao + kk * 7 + 4, none⟩) abl).trans q4
                have r5 := (HBw.out.cell (p := ⟨ab, ao + kk * 7 + 5, none⟩) abl).trans q5
                have r6 := (HBw.out.cell (p := ⟨ab, ao + kk * 7 + 6, none⟩) abl).trans q6
                have hkl : (kk : Int) < (N : Int) := by omega
                have hcj := HRJ.out.rd.caps
                have hcj1 := hcj.1
                have hcj2 := hcj.2.1
                have KE1 : ∀ wz, Hid (Below w5.heap.size w5 wz → Calls Tryz.prog 24 #[.slice p1 N1 c1, kv x.key] wz fun e w' => e = .returned (.bool x.held) ∧ Below wz.heap.size wz w') := fun wz => Lib.hid fun h => in_as x.key (HSD5.out.keep h) hin1
                have KE2 : ∀ wz, Hid (Below w5.heap.size w5 wz → Calls Tryz.prog 24 #[.slice pr R cr, kv x.key] wz fun e w' => e = .returned (.bool x.run) ∧ Below wz.heap.size wz w') := fun wz => Lib.hid fun h => in_as x.key (HRK5.out.rd.keep h) hin2
                have KBF : Hid (∀ k2 z, kk = k2 + 1 → L2[k2]? = some z → beforeF z.j x.j = true) := Lib.hid fun k2 z e hz => HI2.out.next hz (by rw [← e]; exact hx)
                have HW0 : Hid (kk = 0 → waitsB L2 kk = false) := Lib.hid fun e => by rw [e]; rfl
                clear q0 q1 q2 q3 q4 q5 q6 abl hfy hy hin1 hin2 hcj
                obtain ⟨⟨x1', x2', x3', x4', xn, xd⟩, xna, xnc, xda, xdc, xr, xh⟩ := x
                simp only at hno hwn
                cases kk with
                | zero =>
                  have hw0 := HW0.out rfl
                  have hw1 : waitsB L2 0 = false := hw0
                  rw [hw0] at HWV HWS
                  obtain rfl := HWV.out
                  have hz1 := hno
                  clear hx hxm hwn hw0 HW0 KBF
                  simp only [Nat.zero_mul, Nat.add_zero] at r0 r1 r2 r3 r4 r5 r6
                  cases xh <;> cases xr
                  · as_aux_lemma =>
                      (
                        go_wp2_with (go_at_call 10; (with_reducible refine (rkey_as ⟨x1', x2', x3', x4', xn, xd⟩ _ _ _ _ _ _ _).mono ?_); rintro e w6 ⟨rfl, hb⟩; have hxx := below_alloc w6 (.cells #[.int .i64 x1', .int .i64 x2'] 33); have hbw := HBw.out.trans (hb.mono HBw.out.size); have HBy := Lib.hid (hbw.trans (hxx.mono hbw.size)); have HKB := Lib.hid (Holds.new w6 #[.int .i64 x1', .int .i64 x2'] 33); clear hb hxx hbw)
                        obtain ⟨bk, hbk⟩ : ∃ b, w6.heap.size = b := ⟨_, rfl⟩
                        rw [hbk] at HKB ⊢
                        generalize w6.alloc (.cells #[.int .i64 x1', .int .i64 x2'] 33) = wy at HBy HKB ⊢
                        clear hbk r0 r1 r2 r3 r4 r5 r6)
                      (
                        refine wp_region_grow (Below wy.heap.size wy) (by kernel_rfl) (by kernel_rfl) (Below.refl _ _).drew ?_
                        repeat first
                                 | (apply gRow_plain
                                    · exact rfl
                                    · intro wg hg
                                      ((obtain ⟨u0, u1, -⟩ := (HKB.out.keep hg).lay2; (skip)))
                                      go_simp
                                      first
                                        | exact rfl
                                        | exact hg
                                        | exact ⟨hg, rfl⟩
                                        | ((first
| ((with_reducible refine ((KE1 _).out (HBy.out.trans (hg.mono HBy.out.size))).mono ?_); rintro e w' ⟨rfl, hb⟩; exact ⟨rfl, hg.trans (hb.mono hg.size)⟩)
| ((with_reducible refine ((KE2 _).out (HBy.out.trans (hg.mono HBy.out.size))).mono ?_); rintro e w' ⟨rfl, hb⟩; exact ⟨rfl, hg.trans (hb.mono hg.size)⟩)
| ((fail))))
                                    intro K hK
                                    go_simp
                                    refine hK _ ?_
                                    clear hK K)
                                 | (apply gRow_step
                                    · go_simp; done
                                    · intro wg hg
                                      ((obtain ⟨u0, u1, -⟩ := (HKB.out.keep hg).lay2; (skip)))
                                      go_simp
                                      first
                                        | exact rfl
                                        | exact hg
                                        | exact ⟨hg, rfl⟩
                                        | ((first
| ((with_reducible refine ((KE1 _).out (HBy.out.trans (hg.mono HBy.out.size))).mono ?_); rintro e w' ⟨rfl, hb⟩; exact ⟨rfl, hg.trans (hb.mono hg.size)⟩)
| ((with_reducible refine ((KE2 _).out (HBy.out.trans (hg.mono HBy.out.size))).mono ?_); rintro e w' ⟨rfl, hb⟩; exact ⟨rfl, hg.trans (hb.mono hg.size)⟩)
| ((fail))))
                                    intro K hK
                                    go_simp
                                    refine hK _ ?_
                                    clear hK K)
                                 | (apply gRow_not
                                    · go_simp; done
                                    intro K hK
                                    go_simp
                                    refine hK _ ?_
                                    clear hK K)
                        refine gRow_nil ?_
                        intro wz hbz
                        have HBz := Lib.hid (HBy.out.trans (hbz.mono HBy.out.size))
                        obtain ⟨u0, u1, -⟩ := (HKB.out.keep hbz).lay2
                        clear hbz)
                      (
                        go_wp2_with (go_at_call 24; (with_reducible refine ((KE2 _).out HBz.out).mono ?_); rintro e wu ⟨rfl, hb⟩; have HBv := Lib.hid (HBz.out.trans (hb.mono HBz.out.size)); clear hb))
                      go_roundw
                      case rel => exact ⟨1, true, by omega, rfl, rfl, Lib.hid (by have := HWS.out; exact this.symm), HBv⟩
                      case measure => simp [intOf]; omega
                  · as_aux_lemma =>
                      (
                        go_wp2_with (go_at_call 10; (with_reducible refine (rkey_as ⟨x1', x2', x3', x4', xn, xd⟩ _ _ _ _ _ _ _).mono ?_); rintro e w6 ⟨rfl, hb⟩; have hxx := below_alloc w6 (.cells #[.int .i64 x1', .int .i64 x2'] 33); have hbw := HBw.out.trans (hb.mono HBw.out.size); have HBy := Lib.hid (hbw.trans (hxx.mono hbw.size)); have HKB := Lib.hid (Holds.new w6 #[.int .i64 x1', .int .i64 x2'] 33); clear hb hxx hbw)
                        obtain ⟨bk, hbk⟩ : ∃ b, w6.heap.size = b := ⟨_, rfl⟩
                        rw [hbk] at HKB ⊢
                        generalize w6.alloc (.cells #[.int .i64 x1', .int .i64 x2'] 33) = wy at HBy HKB ⊢
                        clear hbk r0 r1 r2 r3 r4 r5 r6)
                      (
                        refine wp_region_grow (Below wy.heap.size wy) (by kernel_rfl) (by kernel_rfl) (Below.refl _ _).drew ?_
                        repeat first
                                 | (apply gRow_plain
                                    · exact rfl
                                    · intro wg hg
                                      ((obtain ⟨u0, u1, -⟩ := (HKB.out.keep hg).lay2; (skip)))
                                      go_simp
                                      first
                                        | exact rfl
                                        | exact hg
                                        | exact ⟨hg, rfl⟩
                                        | ((first
| ((with_reducible refine ((KE1 _).out (HBy.out.trans (hg.mono HBy.out.size))).mono ?_); rintro e w' ⟨rfl, hb⟩; exact ⟨rfl, hg.trans (hb.mono hg.size)⟩)
| ((with_reducible refine ((KE2 _).out (HBy.out.trans (hg.mono HBy.out.size))).mono ?_); rintro e w' ⟨rfl, hb⟩; exact ⟨rfl, hg.trans (hb.mono hg.size)⟩)
| ((fail))))
                                    intro K hK
                                    go_simp
                                    refine hK _ ?_
                                    clear hK K)
                                 | (apply gRow_step
                                    · go_simp; done
                                    · intro wg hg
                                      ((obtain ⟨u0, u1, -⟩ := (HKB.out.keep hg).lay2; (skip)))
                                      go_simp
                                      first
                                        | exact rfl
                                        | exact hg
                                        | exact ⟨hg, rfl⟩
                                        | ((first
| ((with_reducible refine ((KE1 _).out (HBy.out.trans (hg.mono HBy.out.size))).mono ?_); rintro e w' ⟨rfl, hb⟩; exact ⟨rfl, hg.trans (hb.mono hg.size)⟩)
| ((with_reducible refine ((KE2 _).out (HBy.out.trans (hg.mono HBy.out.size))).mono ?_); rintro e w' ⟨rfl, hb⟩; exact ⟨rfl, hg.trans (hb.mono hg.size)⟩)
| ((fail))))
                                    intro K hK
                                    go_simp
                                    refine hK _ ?_
                                    clear hK K)
                                 | (apply gRow_not
                                    · go_simp; done
                                    intro K hK
                                    go_simp
                                    refine hK _ ?_
                                    clear hK K)
                        refine gRow_nil ?_
                        intro wz hbz
                        have HBz := Lib.hid (HBy.out.trans (hbz.mono HBy.out.size))
                        obtain ⟨u0, u1, -⟩ := (HKB.out.keep hbz).lay2
                        clear hbz)
                      (
                        go_wp2_with (go_at_call 24; (with_reducible refine ((KE2 _).out HBz.out).mono ?_); rintro e wu ⟨rfl, hb⟩; have HBv := Lib.hid (HBz.out.trans (hb.mono HBz.out.size)); clear hb))
                      go_roundw
                      case rel => exact ⟨1, false, by omega, rfl, rfl, Lib.hid (by have := HWS.out; exact this.symm), HBv⟩
                      case measure => simp [intOf]; omega
                  · cases hz1 rfl
                  · as_aux_lemma =>
                      (
                        go_wp2_with (go_at_call 10; (with_reducible refine (rkey_as ⟨x1', x2', x3', x4', xn, xd⟩ _ _ _ _ _ _ _).mono ?_); rintro e w6 ⟨rfl, hb⟩; have hxx := below_alloc w6 (.cells #[.int .i64 x1', .int .i64 x2'] 33); have hbw := HBw.out.trans (hb.mono HBw.out.size); have HBy := Lib.hid (hbw.trans (hxx.mono hbw.size)); have HKB := Lib.hid (Holds.new w6 #[.int .i64 x1', .int .i64 x2'] 33); clear hb hxx hbw)
                        obtain ⟨bk, hbk⟩ : ∃ b, w6.heap.size = b := ⟨_, rfl⟩
                        rw [hbk] at HKB ⊢
                        generalize w6.alloc (.cells #[.int .i64 x1', .int .i64 x2'] 33) = wy at HBy HKB ⊢
                        clear hbk r0 r1 r2 r3 r4 r5 r6)
                      (
                        refine wp_region_grow (Below wy.heap.size wy) (by kernel_rfl) (by kernel_rfl) (Below.refl _ _).drew ?_
                        repeat first
                                 | (apply gRow_plain
                                    · exact rfl
                                    · intro wg hg
                                      ((obtain ⟨u0, u1, -⟩ := (HKB.out.keep hg).lay2; (skip)))
                                      go_simp
                                      first
                                        | exact rfl
                                        | exact hg
                                        | exact ⟨hg, rfl⟩
                                        | ((first
| ((with_reducible refine ((KE1 _).out (HBy.out.trans (hg.mono HBy.out.size))).mono ?_); rintro e w' ⟨rfl, hb⟩; exact ⟨rfl, hg.trans (hb.mono hg.size)⟩)
| ((with_reducible refine ((KE2 _).out (HBy.out.trans (hg.mono HBy.out.size))).mono ?_); rintro e w' ⟨rfl, hb⟩; exact ⟨rfl, hg.trans (hb.mono hg.size)⟩)
| ((fail))))
                                    intro K hK
                                    go_simp
                                    refine hK _ ?_
                                    clear hK K)
                                 | (apply gRow_step
                                    · go_simp; done
                                    · intro wg hg
                                      ((obtain ⟨u0, u1, -⟩ := (HKB.out.keep hg).lay2; (skip)))
                                      go_simp
                                      first
                                        | exact rfl
                                        | exact hg
                                        | exact ⟨hg, rfl⟩
                                        | ((first
| ((with_reducible refine ((KE1 _).out (HBy.out.trans (hg.mono HBy.out.size))).mono ?_); rintro e w' ⟨rfl, hb⟩; exact ⟨rfl, hg.trans (hb.mono hg.size)⟩)
| ((with_reducible refine ((KE2 _).out (HBy.out.trans (hg.mono HBy.out.size))).mono ?_); rintro e w' ⟨rfl, hb⟩; exact ⟨rfl, hg.trans (hb.mono hg.size)⟩)
| ((fail))))
                                    intro K hK
                                    go_simp
                                    refine hK _ ?_
                                    clear hK K)
                                 | (apply gRow_not
                                    · go_simp; done
                                    intro K hK
                                    go_simp
                                    refine hK _ ?_
                                    clear hK K)
                        refine gRow_nil ?_
                        intro wz hbz
                        have HBz := Lib.hid (HBy.out.trans (hbz.mono HBy.out.size))
                        obtain ⟨u0, u1, -⟩ := (HKB.out.keep hbz).lay2
                        clear hbz)
                      (
                        go_wp2_with (go_at_call 24; (with_reducible refine ((KE2 _).out HBz.out).mono ?_); rintro e wu ⟨rfl, hb⟩; have HBv := Lib.hid (HBz.out.trans (hb.mono HBz.out.size)); clear hb))
                      go_roundw
                      case rel => exact ⟨1, false, by omega, rfl, rfl, Lib.hid (by have := HWS.out; exact this.symm), HBv⟩
                      case measure => simp [intOf]; omega
                | succ k2 =>
                  obtain ⟨z, hz⟩ : ∃ z, L2[k2]? = some z := ⟨L2[k2]'(by have := HNN.out; omega), by simp⟩
                  have HZB := Lib.hid (KBF.out k2 z rfl hz)
                  obtain ⟨⟨yj2, yna2, ync2, yda2, ydc2, yrr2, yhh2⟩, hy2, hyj2⟩ := nth_job HJ.out.eq hz
                  obtain rfl : yj2 = z.j := hyj2
                  obtain ⟨ab2, ao2, hsp2, abl2, q0, q1, q2, q3, q4, q5, q6⟩ := nth_cells HRJ.out.rd hy2
                  cases hsp2
                  have hfz := HJ.out.frac _ (List.mem_of_getElem? hy2)
                  have HZN := Lib.hid hfz.1
                  have HZD := Lib.hid hfz.2
                  have OZ := Lib.hid (HI2.out.kd.ok z (List.mem_of_getElem? hz))
                  have Z0 := Lib.hid q0
                  have Z1 := Lib.hid q1
                  have Z2 := Lib.hid q2
                  have Z3 := Lib.hid q3
                  have Z4 := Lib.hid q4
                  have Z5 := Lib.hid q5
                  have Z6 := Lib.hid q6
                  have hz1 := hno
                  rw [← HWV.out] at hwn
                  obtain ⟨⟨z1', z2', z3', z4', zn, zd⟩, zna, znc, zda, zdc, zr, zh⟩ := z
                  have hdk : decide ((0 : Int) < (k2 : Int) + 1) = true := decide_eq_true (by omega)
                  have hk21 : (k2 : Int) + 1 - 1 = (k2 : Int) := by omega
                  have hk22 : IntKind.i64.wrap (k2 : Int) = (k2 : Int) := IntWalk.i64_in _ (by omega)
                  have hk23 : (k2 : Int) < (N : Int) := by omega
                  have hk24 : (k2 : Int) + 1 < (N : Int) := by omega
                  clear hx hxm hno HW0 KBF q0 q1 q2 q3 q4 q5 q6 hfz hy2 hz abl2
                  cases xh <;> cases xr <;> cases wv
                  · as_aux_lemma =>
                      (
                        go_wp2_with (go_at_call 10; (with_reducible refine (rkey_as ⟨x1', x2', x3', x4', xn, xd⟩ _ _ _ _ _ _ _).mono ?_); rintro e w6 ⟨rfl, hb⟩; have hxx := below_alloc w6 (.cells #[.int .i64 x1', .int .i64 x2'] 33); have hbw := HBw.out.trans (hb.mono HBw.out.size); have HBy := Lib.hid (hbw.trans (hxx.mono hbw.size)); have HKB := Lib.hid (Holds.new w6 #[.int .i64 x1', .int .i64 x2'] 33); clear hb hxx hbw)
                        obtain ⟨bk, hbk⟩ : ∃ b, w6.heap.size = b := ⟨_, rfl⟩
                        rw [hbk] at HKB ⊢
                        generalize w6.alloc (.cells #[.int .i64 x1', .int .i64 x2'] 33) = wy at HBy HKB ⊢
                        clear hbk r0 r1 r2 r3 r4 r5 r6)
                      (
                        refine wp_region_grow (Below wy.heap.size wy) (by kernel_rfl) (by kernel_rfl) (Below.refl _ _).drew ?_
                        repeat first
                                 | (apply gRow_plain
                                    · exact rfl
                                    · intro wg hg
                                      ((obtain ⟨u0, u1, -⟩ := (HKB.out.keep hg).lay2; ((
                                                                                         have v0 := ((HBy.out.trans (hg.mono HBy.out.size)).cell (p := ⟨ab, ao + (k2 + 1) * 7, none⟩) AB.out).trans A0.out
                                                                                         have v1 := ((HBy.out.trans (hg.mono HBy.out.size)).cell (p := ⟨ab, ao + (k2 + 1) * 7 + 1, none⟩) AB.out).trans A1.out
                                                                                         have v2 := ((HBy.out.trans (hg.mono HBy.out.size)).cell (p := ⟨ab, ao + (k2 + 1) * 7 + 2, none⟩) AB.out).trans A2.out
                                                                                         have v3 := ((HBy.out.trans (hg.mono HBy.out.size)).cell (p := ⟨ab, ao + (k2 + 1) * 7 + 3, none⟩) AB.out).trans A3.out
                                                                                         have v4 := ((HBy.out.trans (hg.mono HBy.out.size)).cell (p := ⟨ab, ao + (k2 + 1) * 7 + 4, none⟩) AB.out).trans A4.out
                                                                                         have v5 := ((HBy.out.trans (hg.mono HBy.out.size)).cell (p := ⟨ab, ao + (k2 + 1) * 7 + 5, none⟩) AB.out).trans A5.out
                                                                                         have v6 := ((HBy.out.trans (hg.mono HBy.out.size)).cell (p := ⟨ab, ao + (k2 + 1) * 7 + 6, none⟩) AB.out).trans A6.out
                                                                                         have s0 := ((HBy.out.trans (hg.mono HBy.out.size)).cell (p := ⟨ab, ao + k2 * 7, none⟩) AB.out).trans Z0.out
                                                                                         have s1 := ((HBy.out.trans (hg.mono HBy.out.size)).cell (p := ⟨ab, ao + k2 * 7 + 1, none⟩) AB.out).trans Z1.out
                                                                                         have s2 := ((HBy.out.trans (hg.mono HBy.out.size)).cell (p := ⟨ab, ao + k2 * 7 + 2, none⟩) AB.out).trans Z2.out
                                                                                         have s3 := ((HBy.out.trans (hg.mono HBy.out.size)).cell (p := ⟨ab, ao + k2 * 7 + 3, none⟩) AB.out).trans Z3.out
                                                                                         have s4 := ((HBy.out.trans (hg.mono HBy.out.size)).cell (p := ⟨ab, ao + k2 * 7 + 4, none⟩) AB.out).trans Z4.out
                                                                                         have s5 := ((HBy.out.trans (hg.mono HBy.out.size)).cell (p := ⟨ab, ao + k2 * 7 + 5, none⟩) AB.out).trans Z5.out
                                                                                         have s6 := ((HBy.out.trans (hg.mono HBy.out.size)).cell (p := ⟨ab, ao + k2 * 7 + 6, none⟩) AB.out).trans Z6.out))))
                                      go_simp
                                      first
                                        | exact rfl
                                        | exact hg
                                        | exact ⟨hg, rfl⟩
                                        | ((first
| ((with_reducible refine ((KE1 _).out (HBy.out.trans (hg.mono HBy.out.size))).mono ?_); rintro e w' ⟨rfl, hb⟩; exact ⟨rfl, hg.trans (hb.mono hg.size)⟩)
| ((with_reducible refine ((KE2 _).out (HBy.out.trans (hg.mono HBy.out.size))).mono ?_); rintro e w' ⟨rfl, hb⟩; exact ⟨rfl, hg.trans (hb.mono hg.size)⟩)
| (((
      (with_reducible refine (jbefore_as OZ.out OX.out (HZN.out.keep (HBy.out.trans (hg.mono HBy.out.size))).rd (HZD.out.keep (HBy.out.trans (hg.mono HBy.out.size))).rd (HXN.out.keep (HBy.out.trans (hg.mono HBy.out.size))).rd (HXD.out.keep (HBy.out.trans (hg.mono HBy.out.size))).rd HZB.out).mono ?_)
      rintro e w' ⟨rfl, hb⟩
      exact ⟨rfl, hg.trans (hb.mono hg.size)⟩)))))
                                    intro K hK
                                    go_simp
                                    refine hK _ ?_
                                    clear hK K)
                                 | (apply gRow_step
                                    · go_simp; done
                                    · intro wg hg
                                      ((obtain ⟨u0, u1, -⟩ := (HKB.out.keep hg).lay2; ((
                                                                                         have v0 := ((HBy.out.trans (hg.mono HBy.out.size)).cell (p := ⟨ab, ao + (k2 + 1) * 7, none⟩) AB.out).trans A0.out
                                                                                         have v1 := ((HBy.out.trans (hg.mono HBy.out.size)).cell (p := ⟨ab, ao + (k2 + 1) * 7 + 1, none⟩) AB.out).trans A1.out
                                                                                         have v2 := ((HBy.out.trans (hg.mono HBy.out.size)).cell (p := ⟨ab, ao + (k2 + 1) * 7 + 2, none⟩) AB.out).trans A2.out
                                                                                         have v3 := ((HBy.out.trans (hg.mono HBy.out.size)).cell (p := ⟨ab, ao + (k2 + 1) * 7 + 3, none⟩) AB.out).trans A3.out
                                                                                         have v4 := ((HBy.out.trans (hg.mono HBy.out.size)).cell (p := ⟨ab, ao + (k2 + 1) * 7 + 4, none⟩) AB.out).trans A4.out
                                                                                         have v5 := ((HBy.out.trans (hg.mono HBy.out.size)).cell (p := ⟨ab, ao + (k2 + 1) * 7 + 5, none⟩) AB.out).trans A5.out
                                                                                         have v6 := ((HBy.out.trans (hg.mono HBy.out.size)).cell (p := ⟨ab, ao + (k2 + 1) * 7 + 6, none⟩) AB.out).trans A6.out
                                                                                         have s0 := ((HBy.out.trans (hg.mono HBy.out.size)).cell (p := ⟨ab, ao + k2 * 7, none⟩) AB.out).trans Z0.out
                                                                                         have s1 := ((HBy.out.trans (hg.mono HBy.out.size)).cell (p := ⟨ab, ao + k2 * 7 + 1, none⟩) AB.out).trans Z1.out
                                                                                         have s2 := ((HBy.out.trans (hg.mono HBy.out.size)).cell (p := ⟨ab, ao + k2 * 7 + 2, none⟩) AB.out).trans Z2.out
                                                                                         have s3 := ((HBy.out.trans (hg.mono HBy.out.size)).cell (p := ⟨ab, ao + k2 * 7 + 3, none⟩) AB.out).trans Z3.out
                                                                                         have s4 := ((HBy.out.trans (hg.mono HBy.out.size)).cell (p := ⟨ab, ao + k2 * 7 + 4, none⟩) AB.out).trans Z4.out
                                                                                         have s5 := ((HBy.out.trans (hg.mono HBy.out.size)).cell (p := ⟨ab, ao + k2 * 7 + 5, none⟩) AB.out).trans Z5.out
                                                                                         have s6 := ((HBy.out.trans (hg.mono HBy.out.size)).cell (p := ⟨ab, ao + k2 * 7 + 6, none⟩) AB.out).trans Z6.out))))
                                      go_simp
                                      first
                                        | exact rfl
                                        | exact hg
                                        | exact ⟨hg, rfl⟩
                                        | ((first
| ((with_reducible refine ((KE1 _).out (HBy.out.trans (hg.mono HBy.out.size))).mono ?_); rintro e w' ⟨rfl, hb⟩; exact ⟨rfl, hg.trans (hb.mono hg.size)⟩)
| ((with_reducible refine ((KE2 _).out (HBy.out.trans (hg.mono HBy.out.size))).mono ?_); rintro e w' ⟨rfl, hb⟩; exact ⟨rfl, hg.trans (hb.mono hg.size)⟩)
| (((
      (with_reducible refine (jbefore_as OZ.out OX.out (HZN.out.keep (HBy.out.trans (hg.mono HBy.out.size))).rd (HZD.out.keep (HBy.out.trans (hg.mono HBy.out.size))).rd (HXN.out.keep (HBy.out.trans (hg.mono HBy.out.size))).rd (HXD.out.keep (HBy.out.trans (hg.mono HBy.out.size))).rd HZB.out).mono ?_)
      rintro e w' ⟨rfl, hb⟩
      exact ⟨rfl, hg.trans (hb.mono hg.size)⟩)))))
                                    intro K hK
                                    go_simp
                                    refine hK _ ?_
                                    clear hK K)
                                 | (apply gRow_not
                                    · go_simp; done
                                    intro K hK
                                    go_simp
                                    refine hK _ ?_
                                    clear hK K)
                        refine gRow_nil ?_
                        intro wz hbz
                        have HBz := Lib.hid (HBy.out.trans (hbz.mono HBy.out.size))
                        obtain ⟨u0, u1, -⟩ := (HKB.out.keep hbz).lay2
                        clear hbz)
                      (
                        go_wp2_with (go_at_call 24; (with_reducible refine ((KE2 _).out HBz.out).mono ?_); rintro e wu ⟨rfl, hb⟩; have HBv := Lib.hid (HBz.out.trans (hb.mono HBz.out.size)); clear hb))
                      go_roundw
                      case rel => exact ⟨k2 + 1 + 1, true, by omega, by go_num, rfl, Lib.hid (by have := HWS.out; rw [← HWV.out] at this; exact this.symm), HBv⟩
                      case measure => simp [intOf]; omega
                  · as_aux_lemma =>
                      (
                        go_wp2_with (go_at_call 10; (with_reducible refine (rkey_as ⟨x1', x2', x3', x4', xn, xd⟩ _ _ _ _ _ _ _).mono ?_); rintro e w6 ⟨rfl, hb⟩; have hxx := below_alloc w6 (.cells #[.int .i64 x1', .int .i64 x2'] 33); have hbw := HBw.out.trans (hb.mono HBw.out.size); have HBy := Lib.hid (hbw.trans (hxx.mono hbw.size)); have HKB := Lib.hid (Holds.new w6 #[.int .i64 x1', .int .i64 x2'] 33); clear hb hxx hbw)
                        obtain ⟨bk, hbk⟩ : ∃ b, w6.heap.size = b := ⟨_, rfl⟩
                        rw [hbk] at HKB ⊢
                        generalize w6.alloc (.cells #[.int .i64 x1', .int .i64 x2'] 33) = wy at HBy HKB ⊢
                        clear hbk r0 r1 r2 r3 r4 r5 r6)
                      (
                        refine wp_region_grow (Below wy.heap.size wy) (by kernel_rfl) (by kernel_rfl) (Below.refl _ _).drew ?_
                        repeat first
                                 | (apply gRow_plain
                                    · exact rfl
                                    · intro wg hg
                                      ((obtain ⟨u0, u1, -⟩ := (HKB.out.keep hg).lay2; ((
                                                                                         have v0 := ((HBy.out.trans (hg.mono HBy.out.size)).cell (p := ⟨ab, ao + (k2 + 1) * 7, none⟩) AB.out).trans A0.out
                                                                                         have v1 := ((HBy.out.trans (hg.mono HBy.out.size)).cell (p := ⟨ab, ao + (k2 + 1) * 7 + 1, none⟩) AB.out).trans A1.out
                                                                                         have v2 := ((HBy.out.trans (hg.mono HBy.out.size)).cell (p := ⟨ab, ao + (k2 + 1) * 7 + 2, none⟩) AB.out).trans A2.out
                                                                                         have v3 := ((HBy.out.trans (hg.mono HBy.out.size)).cell (p := ⟨ab, ao + (k2 + 1) * 7 + 3, none⟩) AB.out).trans A3.out
                                                                                         have v4 := ((HBy.out.trans (hg.mono HBy.out.size)).cell (p := ⟨ab, ao + (k2 + 1) * 7 + 4, none⟩) AB.out).trans A4.out
                                                                                         have v5 := ((HBy.out.trans (hg.mono HBy.out.size)).cell (p := ⟨ab, ao + (k2 + 1) * 7 + 5, none⟩) AB.out).trans A5.out
                                                                                         have v6 := ((HBy.out.trans (hg.mono HBy.out.size)).cell (p := ⟨ab, ao + (k2 + 1) * 7 + 6, none⟩) AB.out).trans A6.out
                                                                                         have s0 := ((HBy.out.trans (hg.mono HBy.out.size)).cell (p := ⟨ab, ao + k2 * 7, none⟩) AB.out).trans Z0.out
                                                                                         have s1 := ((HBy.out.trans (hg.mono HBy.out.size)).cell (p := ⟨ab, ao + k2 * 7 + 1, none⟩) AB.out).trans Z1.out
                                                                                         have s2 := ((HBy.out.trans (hg.mono HBy.out.size)).cell (p := ⟨ab, ao + k2 * 7 + 2, none⟩) AB.out).trans Z2.out
                                                                                         have s3 := ((HBy.out.trans (hg.mono HBy.out.size)).cell (p := ⟨ab, ao + k2 * 7 + 3, none⟩) AB.out).trans Z3.out
                                                                                         have s4 := ((HBy.out.trans (hg.mono HBy.out.size)).cell (p := ⟨ab, ao + k2 * 7 + 4, none⟩) AB.out).trans Z4.out
                                                                                         have s5 := ((HBy.out.trans (hg.mono HBy.out.size)).cell (p := ⟨ab, ao + k2 * 7 + 5, none⟩) AB.out).trans Z5.out
                                                                                         have s6 := ((HBy.out.trans (hg.mono HBy.out.size)).cell (p := ⟨ab, ao + k2 * 7 + 6, none⟩) AB.out).trans Z6.out))))
                                      go_simp
                                      first
                                        | exact rfl
                                        | exact hg
                                        | exact ⟨hg, rfl⟩
                                        | ((first
| ((with_reducible refine ((KE1 _).out (HBy.out.trans (hg.mono HBy.out.size))).mono ?_); rintro e w' ⟨rfl, hb⟩; exact ⟨rfl, hg.trans (hb.mono hg.size)⟩)
| ((with_reducible refine ((KE2 _).out (HBy.out.trans (hg.mono HBy.out.size))).mono ?_); rintro e w' ⟨rfl, hb⟩; exact ⟨rfl, hg.trans (hb.mono hg.size)⟩)
| (((
      (with_reducible refine (jbefore_as OZ.out OX.out (HZN.out.keep (HBy.out.trans (hg.mono HBy.out.size))).rd (HZD.out.keep (HBy.out.trans (hg.mono HBy.out.size))).rd (HXN.out.keep (HBy.out.trans (hg.mono HBy.out.size))).rd (HXD.out.keep (HBy.out.trans (hg.mono HBy.out.size))).rd HZB.out).mono ?_)
      rintro e w' ⟨rfl, hb⟩
      exact ⟨rfl, hg.trans (hb.mono hg.size)⟩)))))
                                    intro K hK
                                    go_simp
                                    refine hK _ ?_
                                    clear hK K)
                                 | (apply gRow_step
                                    · go_simp; done
                                    · intro wg hg
                                      ((obtain ⟨u0, u1, -⟩ := (HKB.out.keep hg).lay2; ((
                                                                                         have v0 := ((HBy.out.trans (hg.mono HBy.out.size)).cell (p := ⟨ab, ao + (k2 + 1) * 7, none⟩) AB.out).trans A0.out
                                                                                         have v1 := ((HBy.out.trans (hg.mono HBy.out.size)).cell (p := ⟨ab, ao + (k2 + 1) * 7 + 1, none⟩) AB.out).trans A1.out
                                                                                         have v2 := ((HBy.out.trans (hg.mono HBy.out.size)).cell (p := ⟨ab, ao + (k2 + 1) * 7 + 2, none⟩) AB.out).trans A2.out
                                                                                         have v3 := ((HBy.out.trans (hg.mono HBy.out.size)).cell (p := ⟨ab, ao + (k2 + 1) * 7 + 3, none⟩) AB.out).trans A3.out
                                                                                         have v4 := ((HBy.out.trans (hg.mono HBy.out.size)).cell (p := ⟨ab, ao + (k2 + 1) * 7 + 4, none⟩) AB.out).trans A4.out
                                                                                         have v5 := ((HBy.out.trans (hg.mono HBy.out.size)).cell (p := ⟨ab, ao + (k2 + 1) * 7 + 5, none⟩) AB.out).trans A5.out
                                                                                         have v6 := ((HBy.out.trans (hg.mono HBy.out.size)).cell (p := ⟨ab, ao + (k2 + 1) * 7 + 6, none⟩) AB.out).trans A6.out
                                                                                         have s0 := ((HBy.out.trans (hg.mono HBy.out.size)).cell (p := ⟨ab, ao + k2 * 7, none⟩) AB.out).trans Z0.out
                                                                                         have s1 := ((HBy.out.trans (hg.mono HBy.out.size)).cell (p := ⟨ab, ao + k2 * 7 + 1, none⟩) AB.out).trans Z1.out
                                                                                         have s2 := ((HBy.out.trans (hg.mono HBy.out.size)).cell (p := ⟨ab, ao + k2 * 7 + 2, none⟩) AB.out).trans Z2.out
                                                                                         have s3 := ((HBy.out.trans (hg.mono HBy.out.size)).cell (p := ⟨ab, ao + k2 * 7 + 3, none⟩) AB.out).trans Z3.out
                                                                                         have s4 := ((HBy.out.trans (hg.mono HBy.out.size)).cell (p := ⟨ab, ao + k2 * 7 + 4, none⟩) AB.out).trans Z4.out
                                                                                         have s5 := ((HBy.out.trans (hg.mono HBy.out.size)).cell (p := ⟨ab, ao + k2 * 7 + 5, none⟩) AB.out).trans Z5.out
                                                                                         have s6 := ((HBy.out.trans (hg.mono HBy.out.size)).cell (p := ⟨ab, ao + k2 * 7 + 6, none⟩) AB.out).trans Z6.out))))
                                      go_simp
                                      first
                                        | exact rfl
                                        | exact hg
                                        | exact ⟨hg, rfl⟩
                                        | ((first
| ((with_reducible refine ((KE1 _).out (HBy.out.trans (hg.mono HBy.out.size))).mono ?_); rintro e w' ⟨rfl, hb⟩; exact ⟨rfl, hg.trans (hb.mono hg.size)⟩)
| ((with_reducible refine ((KE2 _).out (HBy.out.trans (hg.mono HBy.out.size))).mono ?_); rintro e w' ⟨rfl, hb⟩; exact ⟨rfl, hg.trans (hb.mono hg.size)⟩)
| (((
      (with_reducible refine (jbefore_as OZ.out OX.out (HZN.out.keep (HBy.out.trans (hg.mono HBy.out.size))).rd (HZD.out.keep (HBy.out.trans (hg.mono HBy.out.size))).rd (HXN.out.keep (HBy.out.trans (hg.mono HBy.out.size))).rd (HXD.out.keep (HBy.out.trans (hg.mono HBy.out.size))).rd HZB.out).mono ?_)
      rintro e w' ⟨rfl, hb⟩
      exact ⟨rfl, hg.trans (hb.mono hg.size)⟩)))))
                                    intro K hK
                                    go_simp
                                    refine hK _ ?_
                                    clear hK K)
                                 | (apply gRow_not
                                    · go_simp; done
                                    intro K hK
                                    go_simp
                                    refine hK _ ?_
                                    clear hK K)
                        refine gRow_nil ?_
                        intro wz hbz
                        have HBz := Lib.hid (HBy.out.trans (hbz.mono HBy.out.size))
                        obtain ⟨u0, u1, -⟩ := (HKB.out.keep hbz).lay2
                        clear hbz)
                      go_wp2_with fail
                      go_roundw
                      case rel => exact ⟨k2 + 1 + 1, true, by omega, by go_num, rfl, Lib.hid (by have := HWS.out; rw [← HWV.out] at this; exact this.symm), HBz⟩
                      case measure => simp [intOf]; omega
                  · as_aux_lemma =>
                      (
                        go_wp2_with (go_at_call 10; (with_reducible refine (rkey_as ⟨x1', x2', x3', x4', xn, xd⟩ _ _ _ _ _ _ _).mono ?_); rintro e w6 ⟨rfl, hb⟩; have hxx := below_alloc w6 (.cells #[.int .i64 x1', .int .i64 x2'] 33); have hbw := HBw.out.trans (hb.mono HBw.out.size); have HBy := Lib.hid (hbw.trans (hxx.mono hbw.size)); have HKB := Lib.hid (Holds.new w6 #[.int .i64 x1', .int .i64 x2'] 33); clear hb hxx hbw)
                        obtain ⟨bk, hbk⟩ : ∃ b, w6.heap.size = b := ⟨_, rfl⟩
                        rw [hbk] at HKB ⊢
                        generalize w6.alloc (.cells #[.int .i64 x1', .int .i64 x2'] 33) = wy at HBy HKB ⊢
                        clear hbk r0 r1 r2 r3 r4 r5 r6)
                      (
                        refine wp_region_grow (Below wy.heap.size wy) (by kernel_rfl) (by kernel_rfl) (Below.refl _ _).drew ?_
                        repeat first
                                 | (apply gRow_plain
                                    · exact rfl
                                    · intro wg hg
                                      ((obtain ⟨u0, u1, -⟩ := (HKB.out.keep hg).lay2; ((
                                                                                         have v0 := ((HBy.out.trans (hg.mono HBy.out.size)).cell (p := ⟨ab, ao + (k2 + 1) * 7, none⟩) AB.out).trans A0.out
                                                                                         have v1 := ((HBy.out.trans (hg.mono HBy.out.size)).cell (p := ⟨ab, ao + (k2 + 1) * 7 + 1, none⟩) AB.out).trans A1.out
                                                                                         have v2 := ((HBy.out.trans (hg.mono HBy.out.size)).cell (p := ⟨ab, ao + (k2 + 1) * 7 + 2, none⟩) AB.out).trans A2.out
                                                                                         have v3 := ((HBy.out.trans (hg.mono HBy.out.size)).cell (p := ⟨ab, ao + (k2 + 1) * 7 + 3, none⟩) AB.out).trans A3.out
                                                                                         have v4 := ((HBy.out.trans (hg.mono HBy.out.size)).cell (p := ⟨ab, ao + (k2 + 1) * 7 + 4, none⟩) AB.out).trans A4.out
                                                                                         have v5 := ((HBy.out.trans (hg.mono HBy.out.size)).cell (p := ⟨ab, ao + (k2 + 1) * 7 + 5, none⟩) AB.out).trans A5.out
                                                                                         have v6 := ((HBy.out.trans (hg.mono HBy.out.size)).cell (p := ⟨ab, ao + (k2 + 1) * 7 + 6, none⟩) AB.out).trans A6.out
                                                                                         have s0 := ((HBy.out.trans (hg.mono HBy.out.size)).cell (p := ⟨ab, ao + k2 * 7, none⟩) AB.out).trans Z0.out
                                                                                         have s1 := ((HBy.out.trans (hg.mono HBy.out.size)).cell (p := ⟨ab, ao + k2 * 7 + 1, none⟩) AB.out).trans Z1.out
                                                                                         have s2 := ((HBy.out.trans (hg.mono HBy.out.size)).cell (p := ⟨ab, ao + k2 * 7 + 2, none⟩) AB.out).trans Z2.out
                                                                                         have s3 := ((HBy.out.trans (hg.mono HBy.out.size)).cell (p := ⟨ab, ao + k2 * 7 + 3, none⟩) AB.out).trans Z3.out
                                                                                         have s4 := ((HBy.out.trans (hg.mono HBy.out.size)).cell (p := ⟨ab, ao + k2 * 7 + 4, none⟩) AB.out).trans Z4.out
                                                                                         have s5 := ((HBy.out.trans (hg.mono HBy.out.size)).cell (p := ⟨ab, ao + k2 * 7 + 5, none⟩) AB.out).trans Z5.out
                                                                                         have s6 := ((HBy.out.trans (hg.mono HBy.out.size)).cell (p := ⟨ab, ao + k2 * 7 + 6, none⟩) AB.out).trans Z6.out))))
                                      go_simp
                                      first
                                        | exact rfl
                                        | exact hg
                                        | exact ⟨hg, rfl⟩
                                        | ((first
| ((with_reducible refine ((KE1 _).out (HBy.out.trans (hg.mono HBy.out.size))).mono ?_); rintro e w' ⟨rfl, hb⟩; exact ⟨rfl, hg.trans (hb.mono hg.size)⟩)
| ((with_reducible refine ((KE2 _).out (HBy.out.trans (hg.mono HBy.out.size))).mono ?_); rintro e w' ⟨rfl, hb⟩; exact ⟨rfl, hg.trans (hb.mono hg.size)⟩)
| (((
      (with_reducible refine (jbefore_as OZ.out OX.out (HZN.out.keep (HBy.out.trans (hg.mono HBy.out.size))).rd (HZD.out.keep (HBy.out.trans (hg.mono HBy.out.size))).rd (HXN.out.keep (HBy.out.trans (hg.mono HBy.out.size))).rd (HXD.out.keep (HBy.out.trans (hg.mono HBy.out.size))).rd HZB.out).mono ?_)
      rintro e w' ⟨rfl, hb⟩
      exact ⟨rfl, hg.trans (hb.mono hg.size)⟩)))))
                                    intro K hK
                                    go_simp
                                    refine hK _ ?_
                                    clear hK K)
                                 | (apply gRow_step
                                    · go_simp; done
                                    · intro wg hg
                                      ((obtain ⟨u0, u1, -⟩ := (HKB.out.keep hg).lay2; ((
                                                                                         have v0 := ((HBy.out.trans (hg.mono HBy.out.size)).cell (p := ⟨ab, ao + (k2 + 1) * 7, none⟩) AB.out).trans A0.out
                                                                                         have v1 := ((HBy.out.trans (hg.mono HBy.out.size)).cell (p := ⟨ab, ao + (k2 + 1) * 7 + 1, none⟩) AB.out).trans A1.out
                                                                                         have v2 := ((HBy.out.trans (hg.mono HBy.out.size)).cell (p := ⟨ab, ao + (k2 + 1) * 7 + 2, none⟩) AB.out).trans A2.out
                                                                                         have v3 := ((HBy.out.trans (hg.mono HBy.out.size)).cell (p := ⟨ab, ao + (k2 + 1) * 7 + 3, none⟩) AB.out).trans A3.out
                                                                                         have v4 := ((HBy.out.trans (hg.mono HBy.out.size)).cell (p := ⟨ab, ao + (k2 + 1) * 7 + 4, none⟩) AB.out).trans A4.out
                                                                                         have v5 := ((HBy.out.trans (hg.mono HBy.out.size)).cell (p := ⟨ab, ao + (k2 + 1) * 7 + 5, none⟩) AB.out).trans A5.out
                                                                                         have v6 := ((HBy.out.trans (hg.mono HBy.out.size)).cell (p := ⟨ab, ao + (k2 + 1) * 7 + 6, none⟩) AB.out).trans A6.out
                                                                                         have s0 := ((HBy.out.trans (hg.mono HBy.out.size)).cell (p := ⟨ab, ao + k2 * 7, none⟩) AB.out).trans Z0.out
                                                                                         have s1 := ((HBy.out.trans (hg.mono HBy.out.size)).cell (p := ⟨ab, ao + k2 * 7 + 1, none⟩) AB.out).trans Z1.out
                                                                                         have s2 := ((HBy.out.trans (hg.mono HBy.out.size)).cell (p := ⟨ab, ao + k2 * 7 + 2, none⟩) AB.out).trans Z2.out
                                                                                         have s3 := ((HBy.out.trans (hg.mono HBy.out.size)).cell (p := ⟨ab, ao + k2 * 7 + 3, none⟩) AB.out).trans Z3.out
                                                                                         have s4 := ((HBy.out.trans (hg.mono HBy.out.size)).cell (p := ⟨ab, ao + k2 * 7 + 4, none⟩) AB.out).trans Z4.out
                                                                                         have s5 := ((HBy.out.trans (hg.mono HBy.out.size)).cell (p := ⟨ab, ao + k2 * 7 + 5, none⟩) AB.out).trans Z5.out
                                                                                         have s6 := ((HBy.out.trans (hg.mono HBy.out.size)).cell (p := ⟨ab, ao + k2 * 7 + 6, none⟩) AB.out).trans Z6.out))))
                                      go_simp
                                      first
                                        | exact rfl
                                        | exact hg
                                        | exact ⟨hg, rfl⟩
                                        | ((first
| ((with_reducible refine ((KE1 _).out (HBy.out.trans (hg.mono HBy.out.size))).mono ?_); rintro e w' ⟨rfl, hb⟩; exact ⟨rfl, hg.trans (hb.mono hg.size)⟩)
| ((with_reducible refine ((KE2 _).out (HBy.out.trans (hg.mono HBy.out.size))).mono ?_); rintro e w' ⟨rfl, hb⟩; exact ⟨rfl, hg.trans (hb.mono hg.size)⟩)
| (((
      (with_reducible refine (jbefore_as OZ.out OX.out (HZN.out.keep (HBy.out.trans (hg.mono HBy.out.size))).rd (HZD.out.keep (HBy.out.trans (hg.mono HBy.out.size))).rd (HXN.out.keep (HBy.out.trans (hg.mono HBy.out.size))).rd (HXD.out.keep (HBy.out.trans (hg.mono HBy.out.size))).rd HZB.out).mono ?_)
      rintro e w' ⟨rfl, hb⟩
      exact ⟨rfl, hg.trans (hb.mono hg.size)⟩)))))
                                    intro K hK
                                    go_simp
                                    refine hK _ ?_
                                    clear hK K)
                                 | (apply gRow_not
                                    · go_simp; done
                                    intro K hK
                                    go_simp
                                    refine hK _ ?_
                                    clear hK K)
                        refine gRow_nil ?_
                        intro wz hbz
                        have HBz := Lib.hid (HBy.out.trans (hbz.mono HBy.out.size))
                        obtain ⟨u0, u1, -⟩ := (HKB.out.keep hbz).lay2
                        clear hbz)
                      (
                        go_wp2_with (go_at_call 24; (with_reducible refine ((KE2 _).out HBz.out).mono ?_); rintro e wu ⟨rfl, hb⟩; have HBv := Lib.hid (HBz.out.trans (hb.mono HBz.out.size)); clear hb))
                      go_roundw
                      case rel => exact ⟨k2 + 1 + 1, false, by omega, by go_num, rfl, Lib.hid (by have := HWS.out; rw [← HWV.out] at this; exact this.symm), HBv⟩
                      case measure => simp [intOf]; omega
                  · cases hwn rfl rfl
                  · cases hz1 rfl
                  · cases hz1 rfl
                  · as_aux_lemma =>
                      (
                        go_wp2_with (go_at_call 10; (with_reducible refine (rkey_as ⟨x1', x2', x3', x4', xn, xd⟩ _ _ _ _ _ _ _).mono ?_); rintro e w6 ⟨rfl, hb⟩; have hxx := below_alloc w6 (.cells #[.int .i64 x1', .int .i64 x2'] 33); have hbw := HBw.out.trans (hb.mono HBw.out.size); have HBy := Lib.hid (hbw.trans (hxx.mono hbw.size)); have HKB := Lib.hid (Holds.new w6 #[.int .i64 x1', .int .i64 x2'] 33); clear hb hxx hbw)
                        obtain ⟨bk, hbk⟩ : ∃ b, w6.heap.size = b := ⟨_, rfl⟩
                        rw [hbk] at HKB ⊢
                        generalize w6.alloc (.cells #[.int .i64 x1', .int .i64 x2'] 33) = wy at HBy HKB ⊢
                        clear hbk r0 r1 r2 r3 r4 r5 r6)
                      (
                        refine wp_region_grow (Below wy.heap.size wy) (by kernel_rfl) (by kernel_rfl) (Below.refl _ _).drew ?_
                        repeat first
                                 | (apply gRow_plain
                                    · exact rfl
                                    · intro wg hg
                                      ((obtain ⟨u0, u1, -⟩ := (HKB.out.keep hg).lay2; ((
                                                                                         have v0 := ((HBy.out.trans (hg.mono HBy.out.size)).cell (p := ⟨ab, ao + (k2 + 1) * 7, none⟩) AB.out).trans A0.out
                                                                                         have v1 := ((HBy.out.trans (hg.mono HBy.out.size)).cell (p := ⟨ab, ao + (k2 + 1) * 7 + 1, none⟩) AB.out).trans A1.out
                                                                                         have v2 := ((HBy.out.trans (hg.mono HBy.out.size)).cell (p := ⟨ab, ao + (k2 + 1) * 7 + 2, none⟩) AB.out).trans A2.out
                                                                                         have v3 := ((HBy.out.trans (hg.mono HBy.out.size)).cell (p := ⟨ab, ao + (k2 + 1) * 7 + 3, none⟩) AB.out).trans A3.out
                                                                                         have v4 := ((HBy.out.trans (hg.mono HBy.out.size)).cell (p := ⟨ab, ao + (k2 + 1) * 7 + 4, none⟩) AB.out).trans A4.out
                                                                                         have v5 := ((HBy.out.trans (hg.mono HBy.out.size)).cell (p := ⟨ab, ao + (k2 + 1) * 7 + 5, none⟩) AB.out).trans A5.out
                                                                                         have v6 := ((HBy.out.trans (hg.mono HBy.out.size)).cell (p := ⟨ab, ao + (k2 + 1) * 7 + 6, none⟩) AB.out).trans A6.out
                                                                                         have s0 := ((HBy.out.trans (hg.mono HBy.out.size)).cell (p := ⟨ab, ao + k2 * 7, none⟩) AB.out).trans Z0.out
                                                                                         have s1 := ((HBy.out.trans (hg.mono HBy.out.size)).cell (p := ⟨ab, ao + k2 * 7 + 1, none⟩) AB.out).trans Z1.out
                                                                                         have s2 := ((HBy.out.trans (hg.mono HBy.out.size)).cell (p := ⟨ab, ao + k2 * 7 + 2, none⟩) AB.out).trans Z2.out
                                                                                         have s3 := ((HBy.out.trans (hg.mono HBy.out.size)).cell (p := ⟨ab, ao + k2 * 7 + 3, none⟩) AB.out).trans Z3.out
                                                                                         have s4 := ((HBy.out.trans (hg.mono HBy.out.size)).cell (p := ⟨ab, ao + k2 * 7 + 4, none⟩) AB.out).trans Z4.out
                                                                                         have s5 := ((HBy.out.trans (hg.mono HBy.out.size)).cell (p := ⟨ab, ao + k2 * 7 + 5, none⟩) AB.out).trans Z5.out
                                                                                         have s6 := ((HBy.out.trans (hg.mono HBy.out.size)).cell (p := ⟨ab, ao + k2 * 7 + 6, none⟩) AB.out).trans Z6.out))))
                                      go_simp
                                      first
                                        | exact rfl
                                        | exact hg
                                        | exact ⟨hg, rfl⟩
                                        | ((first
| ((with_reducible refine ((KE1 _).out (HBy.out.trans (hg.mono HBy.out.size))).mono ?_); rintro e w' ⟨rfl, hb⟩; exact ⟨rfl, hg.trans (hb.mono hg.size)⟩)
| ((with_reducible refine ((KE2 _).out (HBy.out.trans (hg.mono HBy.out.size))).mono ?_); rintro e w' ⟨rfl, hb⟩; exact ⟨rfl, hg.trans (hb.mono hg.size)⟩)
| (((
      (with_reducible refine (jbefore_as OZ.out OX.out (HZN.out.keep (HBy.out.trans (hg.mono HBy.out.size))).rd (HZD.out.keep (HBy.out.trans (hg.mono HBy.out.size))).rd (HXN.out.keep (HBy.out.trans (hg.mono HBy.out.size))).rd (HXD.out.keep (HBy.out.trans (hg.mono HBy.out.size))).rd HZB.out).mono ?_)
      rintro e w' ⟨rfl, hb⟩
      exact ⟨rfl, hg.trans (hb.mono hg.size)⟩)))))
                                    intro K hK
                                    go_simp
                                    refine hK _ ?_
                                    clear hK K)
                                 | (apply gRow_step
                                    · go_simp; done
                                    · intro wg hg
                                      ((obtain ⟨u0, u1, -⟩ := (HKB.out.keep hg).lay2; ((
                                                                                         have v0 := ((HBy.out.trans (hg.mono HBy.out.size)).cell (p := ⟨ab, ao + (k2 + 1) * 7, none⟩) AB.out).trans A0.out
                                                                                         have v1 := ((HBy.out.trans (hg.mono HBy.out.size)).cell (p := ⟨ab, ao + (k2 + 1) * 7 + 1, none⟩) AB.out).trans A1.out
                                                                                         have v2 := ((HBy.out.trans (hg.mono HBy.out.size)).cell (p := ⟨ab, ao + (k2 + 1) * 7 + 2, none⟩) AB.out).trans A2.out
                                                                                         have v3 := ((HBy.out.trans (hg.mono HBy.out.size)).cell (p := ⟨ab, ao + (k2 + 1) * 7 + 3, none⟩) AB.out).trans A3.out
                                                                                         have v4 := ((HBy.out.trans (hg.mono HBy.out.size)).cell (p := ⟨ab, ao + (k2 + 1) * 7 + 4, none⟩) AB.out).trans A4.out
                                                                                         have v5 := ((HBy.out.trans (hg.mono HBy.out.size)).cell (p := ⟨ab, ao + (k2 + 1) * 7 + 5, none⟩) AB.out).trans A5.out
                                                                                         have v6 := ((HBy.out.trans (hg.mono HBy.out.size)).cell (p := ⟨ab, ao + (k2 + 1) * 7 + 6, none⟩) AB.out).trans A6.out
                                                                                         have s0 := ((HBy.out.trans (hg.mono HBy.out.size)).cell (p := ⟨ab, ao + k2 * 7, none⟩) AB.out).trans Z0.out
                                                                                         have s1 := ((HBy.out.trans (hg.mono HBy.out.size)).cell (p := ⟨ab, ao + k2 * 7 + 1, none⟩) AB.out).trans Z1.out
                                                                                         have s2 := ((HBy.out.trans (hg.mono HBy.out.size)).cell (p := ⟨ab, ao + k2 * 7 + 2, none⟩) AB.out).trans Z2.out
                                                                                         have s3 := ((HBy.out.trans (hg.mono HBy.out.size)).cell (p := ⟨ab, ao + k2 * 7 + 3, none⟩) AB.out).trans Z3.out
                                                                                         have s4 := ((HBy.out.trans (hg.mono HBy.out.size)).cell (p := ⟨ab, ao + k2 * 7 + 4, none⟩) AB.out).trans Z4.out
                                                                                         have s5 := ((HBy.out.trans (hg.mono HBy.out.size)).cell (p := ⟨ab, ao + k2 * 7 + 5, none⟩) AB.out).trans Z5.out
                                                                                         have s6 := ((HBy.out.trans (hg.mono HBy.out.size)).cell (p := ⟨ab, ao + k2 * 7 + 6, none⟩) AB.out).trans Z6.out))))
                                      go_simp
                                      first
                                        | exact rfl
                                        | exact hg
                                        | exact ⟨hg, rfl⟩
                                        | ((first
| ((with_reducible refine ((KE1 _).out (HBy.out.trans (hg.mono HBy.out.size))).mono ?_); rintro e w' ⟨rfl, hb⟩; exact ⟨rfl, hg.trans (hb.mono hg.size)⟩)
| ((with_reducible refine ((KE2 _).out (HBy.out.trans (hg.mono HBy.out.size))).mono ?_); rintro e w' ⟨rfl, hb⟩; exact ⟨rfl, hg.trans (hb.mono hg.size)⟩)
| (((
      (with_reducible refine (jbefore_as OZ.out OX.out (HZN.out.keep (HBy.out.trans (hg.mono HBy.out.size))).rd (HZD.out.keep (HBy.out.trans (hg.mono HBy.out.size))).rd (HXN.out.keep (HBy.out.trans (hg.mono HBy.out.size))).rd (HXD.out.keep (HBy.out.trans (hg.mono HBy.out.size))).rd HZB.out).mono ?_)
      rintro e w' ⟨rfl, hb⟩
      exact ⟨rfl, hg.trans (hb.mono hg.size)⟩)))))
                                    intro K hK
                                    go_simp
                                    refine hK _ ?_
                                    clear hK K)
                                 | (apply gRow_not
                                    · go_simp; done
                                    intro K hK
                                    go_simp
                                    refine hK _ ?_
                                    clear hK K)
                        refine gRow_nil ?_
                        intro wz hbz
                        have HBz := Lib.hid (HBy.out.trans (hbz.mono HBy.out.size))
                        obtain ⟨u0, u1, -⟩ := (HKB.out.keep hbz).lay2
                        clear hbz)
                      (
                        go_wp2_with (go_at_call 24; (with_reducible refine ((KE2 _).out HBz.out).mono ?_); rintro e wu ⟨rfl, hb⟩; have HBv := Lib.hid (HBz.out.trans (hb.mono HBz.out.size)); clear hb))
                      go_roundw
                      case rel => exact ⟨k2 + 1 + 1, false, by omega, by go_num, rfl, Lib.hid (by have := HWS.out; rw [← HWV.out] at this; exact this.symm), HBv⟩
                      case measure => simp [intOf]; omega
                  · as_aux_lemma =>
                      (
                        go_wp2_with (go_at_call 10; (with_reducible refine (rkey_as ⟨x1', x2', x3', x4', xn, xd⟩ _ _ _ _ _ _ _).mono ?_); rintro e w6 ⟨rfl, hb⟩; have hxx := below_alloc w6 (.cells #[.int .i64 x1', .int .i64 x2'] 33); have hbw := HBw.out.trans (hb.mono HBw.out.size); have HBy := Lib.hid (hbw.trans (hxx.mono hbw.size)); have HKB := Lib.hid (Holds.new w6 #[.int .i64 x1', .int .i64 x2'] 33); clear hb hxx hbw)
                        obtain ⟨bk, hbk⟩ : ∃ b, w6.heap.size = b := ⟨_, rfl⟩
                        rw [hbk] at HKB ⊢
                        generalize w6.alloc (.cells #[.int .i64 x1', .int .i64 x2'] 33) = wy at HBy HKB ⊢
                        clear hbk r0 r1 r2 r3 r4 r5 r6)
                      (
                        refine wp_region_grow (Below wy.heap.size wy) (by kernel_rfl) (by kernel_rfl) (Below.refl _ _).drew ?_
                        repeat first
                                 | (apply gRow_plain
                                    · exact rfl
                                    · intro wg hg
                                      ((obtain ⟨u0, u1, -⟩ := (HKB.out.keep hg).lay2; ((
                                                                                         have v0 := ((HBy.out.trans (hg.mono HBy.out.size)).cell (p := ⟨ab, ao + (k2 + 1) * 7, none⟩) AB.out).trans A0.out
                                                                                         have v1 := ((HBy.out.trans (hg.mono HBy.out.size)).cell (p := ⟨ab, ao + (k2 + 1) * 7 + 1, none⟩) AB.out).trans A1.out
                                                                                         have v2 := ((HBy.out.trans (hg.mono HBy.out.size)).cell (p := ⟨ab, ao + (k2 + 1) * 7 + 2, none⟩) AB.out).trans A2.out
                                                                                         have v3 := ((HBy.out.trans (hg.mono HBy.out.size)).cell (p := ⟨ab, ao + (k2 + 1) * 7 + 3, none⟩) AB.out).trans A3.out
                                                                                         have v4 := ((HBy.out.trans (hg.mono HBy.out.size)).cell (p := ⟨ab, ao + (k2 + 1) * 7 + 4, none⟩) AB.out).trans A4.out
                                                                                         have v5 := ((HBy.out.trans (hg.mono HBy.out.size)).cell (p := ⟨ab, ao + (k2 + 1) * 7 + 5, none⟩) AB.out).trans A5.out
                                                                                         have v6 := ((HBy.out.trans (hg.mono HBy.out.size)).cell (p := ⟨ab, ao + (k2 + 1) * 7 + 6, none⟩) AB.out).trans A6.out
                                                                                         have s0 := ((HBy.out.trans (hg.mono HBy.out.size)).cell (p := ⟨ab, ao + k2 * 7, none⟩) AB.out).trans Z0.out
                                                                                         have s1 := ((HBy.out.trans (hg.mono HBy.out.size)).cell (p := ⟨ab, ao + k2 * 7 + 1, none⟩) AB.out).trans Z1.out
                                                                                         have s2 := ((HBy.out.trans (hg.mono HBy.out.size)).cell (p := ⟨ab, ao + k2 * 7 + 2, none⟩) AB.out).trans Z2.out
                                                                                         have s3 := ((HBy.out.trans (hg.mono HBy.out.size)).cell (p := ⟨ab, ao + k2 * 7 + 3, none⟩) AB.out).trans Z3.out
                                                                                         have s4 := ((HBy.out.trans (hg.mono HBy.out.size)).cell (p := ⟨ab, ao + k2 * 7 + 4, none⟩) AB.out).trans Z4.out
                                                                                         have s5 := ((HBy.out.trans (hg.mono HBy.out.size)).cell (p := ⟨ab, ao + k2 * 7 + 5, none⟩) AB.out).trans Z5.out
                                                                                         have s6 := ((HBy.out.trans (hg.mono HBy.out.size)).cell (p := ⟨ab, ao + k2 * 7 + 6, none⟩) AB.out).trans Z6.out))))
                                      go_simp
                                      first
                                        | exact rfl
                                        | exact hg
                                        | exact ⟨hg, rfl⟩
                                        | ((first
| ((with_reducible refine ((KE1 _).out (HBy.out.trans (hg.mono HBy.out.size))).mono ?_); rintro e w' ⟨rfl, hb⟩; exact ⟨rfl, hg.trans (hb.mono hg.size)⟩)
| ((with_reducible refine ((KE2 _).out (HBy.out.trans (hg.mono HBy.out.size))).mono ?_); rintro e w' ⟨rfl, hb⟩; exact ⟨rfl, hg.trans (hb.mono hg.size)⟩)
| (((
      (with_reducible refine (jbefore_as OZ.out OX.out (HZN.out.keep (HBy.out.trans (hg.mono HBy.out.size))).rd (HZD.out.keep (HBy.out.trans (hg.mono HBy.out.size))).rd (HXN.out.keep (HBy.out.trans (hg.mono HBy.out.size))).rd (HXD.out.keep (HBy.out.trans (hg.mono HBy.out.size))).rd HZB.out).mono ?_)
      rintro e w' ⟨rfl, hb⟩
      exact ⟨rfl, hg.trans (hb.mono hg.size)⟩)))))
                                    intro K hK
                                    go_simp
                                    refine hK _ ?_
                                    clear hK K)
                                 | (apply gRow_step
                                    · go_simp; done
                                    · intro wg hg
                                      ((obtain ⟨u0, u1, -⟩ := (HKB.out.keep hg).lay2; ((
                                                                                         have v0 := ((HBy.out.trans (hg.mono HBy.out.size)).cell (p := ⟨ab, ao + (k2 + 1) * 7, none⟩) AB.out).trans A0.out
                                                                                         have v1 := ((HBy.out.trans (hg.mono HBy.out.size)).cell (p := ⟨ab, ao + (k2 + 1) * 7 + 1, none⟩) AB.out).trans A1.out
                                                                                         have v2 := ((HBy.out.trans (hg.mono HBy.out.size)).cell (p := ⟨ab, ao + (k2 + 1) * 7 + 2, none⟩) AB.out).trans A2.out
                                                                                         have v3 := ((HBy.out.trans (hg.mono HBy.out.size)).cell (p := ⟨ab, ao + (k2 + 1) * 7 + 3, none⟩) AB.out).trans A3.out
                                                                                         have v4 := ((HBy.out.trans (hg.mono HBy.out.size)).cell (p := ⟨ab, ao + (k2 + 1) * 7 + 4, none⟩) AB.out).trans A4.out
                                                                                         have v5 := ((HBy.out.trans (hg.mono HBy.out.size)).cell (p := ⟨ab, ao + (k2 + 1) * 7 + 5, none⟩) AB.out).trans A5.out
                                                                                         have v6 := ((HBy.out.trans (hg.mono HBy.out.size)).cell (p := ⟨ab, ao + (k2 + 1) * 7 + 6, none⟩) AB.out).trans A6.out
                                                                                         have s0 := ((HBy.out.trans (hg.mono HBy.out.size)).cell (p := ⟨ab, ao + k2 * 7, none⟩) AB.out).trans Z0.out
                                                                                         have s1 := ((HBy.out.trans (hg.mono HBy.out.size)).cell (p := ⟨ab, ao + k2 * 7 + 1, none⟩) AB.out).trans Z1.out
                                                                                         have s2 := ((HBy.out.trans (hg.mono HBy.out.size)).cell (p := ⟨ab, ao + k2 * 7 + 2, none⟩) AB.out).trans Z2.out
                                                                                         have s3 := ((HBy.out.trans (hg.mono HBy.out.size)).cell (p := ⟨ab, ao + k2 * 7 + 3, none⟩) AB.out).trans Z3.out
                                                                                         have s4 := ((HBy.out.trans (hg.mono HBy.out.size)).cell (p := ⟨ab, ao + k2 * 7 + 4, none⟩) AB.out).trans Z4.out
                                                                                         have s5 := ((HBy.out.trans (hg.mono HBy.out.size)).cell (p := ⟨ab, ao + k2 * 7 + 5, none⟩) AB.out).trans Z5.out
                                                                                         have s6 := ((HBy.out.trans (hg.mono HBy.out.size)).cell (p := ⟨ab, ao + k2 * 7 + 6, none⟩) AB.out).trans Z6.out))))
                                      go_simp
                                      first
                                        | exact rfl
                                        | exact hg
                                        | exact ⟨hg, rfl⟩
                                        | ((first
| ((with_reducible refine ((KE1 _).out (HBy.out.trans (hg.mono HBy.out.size))).mono ?_); rintro e w' ⟨rfl, hb⟩; exact ⟨rfl, hg.trans (hb.mono hg.size)⟩)
| ((with_reducible refine ((KE2 _).out (HBy.out.trans (hg.mono HBy.out.size))).mono ?_); rintro e w' ⟨rfl, hb⟩; exact ⟨rfl, hg.trans (hb.mono hg.size)⟩)
| (((
      (with_reducible refine (jbefore_as OZ.out OX.out (HZN.out.keep (HBy.out.trans (hg.mono HBy.out.size))).rd (HZD.out.keep (HBy.out.trans (hg.mono HBy.out.size))).rd (HXN.out.keep (HBy.out.trans (hg.mono HBy.out.size))).rd (HXD.out.keep (HBy.out.trans (hg.mono HBy.out.size))).rd HZB.out).mono ?_)
      rintro e w' ⟨rfl, hb⟩
      exact ⟨rfl, hg.trans (hb.mono hg.size)⟩)))))
                                    intro K hK
                                    go_simp
                                    refine hK _ ?_
                                    clear hK K)
                                 | (apply gRow_not
                                    · go_simp; done
                                    intro K hK
                                    go_simp
                                    refine hK _ ?_
                                    clear hK K)
                        refine gRow_nil ?_
                        intro wz hbz
                        have HBz := Lib.hid (HBy.out.trans (hbz.mono HBy.out.size))
                        obtain ⟨u0, u1, -⟩ := (HKB.out.keep hbz).lay2
                        clear hbz)
                      go_wp2_with fail
                      go_roundw
                      case rel => exact ⟨k2 + 1 + 1, true, by omega, by go_num, rfl, Lib.hid (by have := HWS.out; rw [← HWV.out] at this; exact this.symm), HBz⟩
                      case measure => simp [intOf]; omega
              · as_aux_lemma =>
                  obtain rfl : kk = N := by omega
                  have HS6 := Lib.hid (HS5.out.keep HBw.out)
                  have HRK6 := Lib.hid (HRK5.out.keep HBw.out)
                  have KS2 := Lib.hid (schedule_as HS6.out.q HS6.out.t.size (by have := HN9.out; omega) (by omega) (by omega))
                  have hsl : slotsL n L2 = slotsL n L1 := by
                    have e := HL2.out
                    rw [← e]
                    exact slots_sch n L1 (slotsL n L1)
                  obtain ⟨g1, g2, g3⟩ := sch_twice L1 (slotsL n L1)
                  rw [HL2.out] at g1 g2 g3
                  unfold SchedPost at KS2
                  rw [hsl, g1, g2, g3] at KS2
                  clear hsl g1 g2 g3 HWV HBw HS5 HRK5 HRJ HSD5
                  have hkk : decide ((kk : Int) < (kk : Int)) = false := by simp
                  go_wp2_with (first
                    | (go_at_call 25; (with_reducible refine KS2.out.mono ?_); rintro e w7 ⟨y1, S2, y2, y3, P2, y4, rfl, ⟨hs, -⟩, ⟨hp, -⟩, -, -, hq, ht⟩; obtain rfl := hs.eq_nil; obtain rfl := hp.eq_nil; simp only [List.length_nil]; have HS7 := Lib.hid (HS6.out.turn hq ht HI2.out); have HRK7 := Lib.hid (HRK6.out.qt ht (by decide) (by decide)); have KRU2 := Lib.hid (running_as HS7.out.q (by have := HN9.out; omega)); clear hq ht hs hp)
                    | (go_at_call 18; (with_reducible refine KRU2.out.mono ?_); rintro e w8 ⟨pr2, cr2, K2, rfl, hp, hs, hr, hb⟩; obtain rfl : K2 = K := keys_same hp HKP.out hs HKS.out; have HRK8 := Lib.hid (HRK7.out.keep hb); have KSK := Lib.hid (samekeys_as _ _ K2 w8 HRK8.out.rd hr.rd); rw [HKR.out] at KSK ⊢; have HS8 := Lib.hid (HS7.out.keep hb); clear hp hs hr hb)
                    | (go_at_call 26; (with_reducible refine KSK.out.mono ?_); rintro e w9 ⟨rfl, hb⟩; have HS9 := Lib.hid (HS8.out.keep hb); clear hb))
                  go_roundw
                  case rel => exact ⟨k + 1, L2, Sd1, p1, N1, c1, by omega, by go_num, rfl, HN1.out, by omega, HS9⟩
                  case measure => simp [intOf]; omega
          · as_aux_lemma =>
              have q2 : ((r : Int) != 2) = true := by simp; omega
              clear hr h2
              go_wp2_with fail
              go_roundw
              case rel => exact ⟨k + 1, L1, Sd1, p1, N1, c1, by omega, by go_num, rfl, HN1.out, by omega, HS1⟩
              case measure => simp [intOf]; omega
  
      · obtain rfl : k = len := by omega
        go_wp2_with (go_at_call 11; (with_reducible refine (awake_any _).mono ?_); rintro e w1 ⟨rfl, hb⟩; have HSB := Lib.hid (HS.out.keep hb); clear hb)
        go_ret
        exact ⟨rfl, HSB.out.t.below (Nat.le_refl _)⟩
end Go.Proofs.YtgnmolleaengaaaGreat
