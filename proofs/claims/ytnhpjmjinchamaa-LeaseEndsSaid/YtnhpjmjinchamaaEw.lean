/- The walk of LeaseEnds. -/
import Derived.Test.YtnhpjmjinchamaaEo
import Derived.Test.YtnhpjmjinchamaaFr
set_option linter.unusedVariables false
set_option linter.unusedSimpArgs false
set_option linter.unnecessarySimpa false
namespace Go.Proofs.Ytnhpjmjinchamaa
open Go Go.RowKit

theorem St.one {w0 w : World} {i : Ids} {T : Tb} {p q r : Nat × Array Value} (h : St w0 i [p, q, r] T w) : St w0 i [r] T w := ⟨h.mm.drop.drop, h.tb⟩
theorem St.asl {w0 w : World} {i : Ids} {T : Tb} {p q : Nat × Array Value} {b : Nat} {l : Ls} (h : St w0 i [p, q, (b, #[.int .i64 l.vol, .int .i64 l.frag, .int .i64 l.drive, .int .i64 l.ext, .int .i64 l.gen, .bool true])] T w) (hm : l.mov = true) : St w0 i [(b, lc l)] T w := by
  show St w0 i [(b, #[.int .i64 l.vol, .int .i64 l.frag, .int .i64 l.drive, .int .i64 l.ext, .int .i64 l.gen, .bool l.mov])] T w
  rw [hm]
  exact h.one
/-- the second loop's state -/
structure Le (w0 : World) (i : Ids) (xb : Nat) (x : Ls) (N : Nat) (T : Tb) (w : World) : Prop where
  st : St w0 i [(xb, lc x)] T w
  inv : Inv N T
  ended : Ended T x
namespace Le
variable {w0 w w' : World} {i : Ids} {xb : Nat} {x : Ls} {N : Nat} {T T' : Tb} {v : Value} {e : Ending}
theorem call (h : Le w0 i xb x N T w) (hb : Below w.heap.size w w') : Le w0 i xb x N T w' := ⟨h.st.call hb, h.inv, h.ended⟩
theorem small (h : Le w0 i xb x N T w) (hN : N ≤ 900) : Small T := fun k => by have := h.inv.gs k; omega
theorem turn (h : Le w0 i xb x N T w) (ho : Out w i T' v e w') (hi : Inv (N + 1) T') (he : Ended T' x) : Le w0 i xb x (N + 1) T' w' := ⟨⟨h.st.mm.turn ho.2.2, ho.2.1⟩, hi, he⟩
theorem next (h : Le w0 i xb x N T w) : Le w0 i xb x (N + 1) T w := ⟨h.st, h.inv.mono (by omega), h.ended⟩
end Le


set_option maxRecDepth 20000 in
set_option maxHeartbeats 16000000 in
theorem ends_law (a a2 : Option Addr) (n cap n2 cap2 : Nat) (f f2 : Nat → Int × Int × Int × Int × Int) (vo fr : Int) (rv : Bool) (w : World)
    (hl : Seq w (.slice a n cap) 5 n (fun i => [.int .i64 (f i).1, .int .i64 (f i).2.1, .int .i64 (f i).2.2.1, .int .i64 (f i).2.2.2.1, .int .i64 (f i).2.2.2.2]))
    (hl2 : Seq w (.slice a2 n2 cap2) 5 n2 (fun i => [.int .i64 (f2 i).1, .int .i64 (f2 i).2.1, .int .i64 (f2 i).2.2.1, .int .i64 (f2 i).2.2.2.1, .int .i64 (f2 i).2.2.2.2]))
    (hf : ∀ i, In64 (f i).1 ∧ In64 (f i).2.1 ∧ In64 (f i).2.2.1 ∧ In64 (f i).2.2.2.1 ∧ In64 (f i).2.2.2.2)
    (hf2 : ∀ i, In64 (f2 i).1 ∧ In64 (f2 i).2.1 ∧ In64 (f2 i).2.2.1 ∧ In64 (f2 i).2.2.2.1 ∧ In64 (f2 i).2.2.2.2) (hvo : In64 vo) (hfr : In64 fr) :
    Calls Try.prog 4 #[.slice a n cap, .slice a2 n2 cap2, .int .i64 vo, .int .i64 fr, .bool rv] w fun e w' => e = .returned (.bool true) ∧ Below w.heap.size w w' := by
  obtain ⟨a', cap', hv, hcap, hn63, hcell⟩ := hl
  cases hv
  obtain ⟨a2', cap2', hv2, hcap2, hn263, hcell2⟩ := hl2
  cases hv2
  have HC := Lib.hid hcell
  have HF := Lib.hid hf
  have HC2 := Lib.hid hcell2
  have HF2 := Lib.hid hf2
  clear hcell hcap hf hcell2 hcap2 hf2
  by_cases h40 : 40 < n
  · have qa : decide ((40 : Int) < (n : Int)) = true := by simp; omega
    go_enter Try.func4, Try.ntmps4
    go_wp2_with (first
      | (go_at_call 10; (with_reducible refine (awake_any _).mono ?_); rintro e w1 ⟨rfl, hb⟩; have HB := Lib.hid hb; clear hb))
    go_ret
    exact ⟨rfl, HB.out⟩
  have qa : decide ((40 : Int) < (n : Int)) = false := by simp; omega
  by_cases h41 : 40 < n2
  · have qb : decide ((40 : Int) < (n2 : Int)) = true := by simp; omega
    clear h40 h41
    go_enter Try.func4, Try.ntmps4
    go_wp2_with (first
      | (go_at_call 10; (with_reducible refine (awake_any _).mono ?_); rintro e w1 ⟨rfl, hb⟩; have HB := Lib.hid hb; clear hb))
    go_ret
    exact ⟨rfl, HB.out⟩
  have qb : decide ((40 : Int) < (n2 : Int)) = false := by simp; omega
  obtain ⟨v, hnv⟩ : ∃ x, vo % 3 = x := ⟨_, rfl⟩
  obtain ⟨g, hnf⟩ : ∃ x, fr % 3 = x := ⟨_, rfl⟩
  have K1 := fun w => Lib.hid (hnv ▸ within_any vo 3 w (by omega) (by omega) hvo.1 hvo.2)
  have K2 := fun w => Lib.hid (hnf ▸ within_any fr 3 w (by omega) (by omega) hfr.1 hfr.2)
  have HFB := Lib.hid (show fragB v g = true by unfold fragB; simp; omega)
  clear hnv hnf hvo hfr
  go_enter Try.func4, Try.ntmps4
  go_wp2_with (first
    | (go_at_call 11; (with_reducible refine (new_any _).mono ?_); rintro e w1 ⟨i, rfl, hs, ht, hb⟩; have HL := Lib.hid (show Lo w w1.heap.size i w1.heap.size 0 noT noR (w1.alloc (.cells Try.zeroCells39 39)) ∧ Inv 0 noT ∧ Dr noT from ⟨Lo.mk (w := w) (both_start ht) Rel.start Low.start (hb.alloc hb.size _) (fun s h => (List.mem_cons.1 h).elim (fun e => e ▸ hb.size) (hs s)), Inv.start, Dr.start⟩); clear hs ht hb))
  go_loopw [13] (fun kk wr => ∃ (k : Nat) (T : Tb) (R : Rf), kk = .int .i64 k ∧ k ≤ n ∧ Hid (Lo w w1.heap.size i w1.heap.size k T R wr ∧ Inv k T ∧ Dr T)) (fun kk _ => n - (intOf kk).toNat)
  case atStart => exact ⟨0, noT, noR, rfl, by omega, HL⟩
  case round =>
    rename World => wr
    obtain ⟨k, T, R, rfl, hk, HV⟩ := hrel
    clear HL
    by_cases hkn : k < n
    · obtain ⟨b, off, rfl, hb, hcc⟩ := HC.out k hkn
      have d0 : wr.cell? ⟨b, off + k * 5, none⟩ = some (.int .i64 (f k).1) := (HV.out.1.below.cell (p := ⟨b, off + k * 5, none⟩) hb).trans (hcc 0 _ rfl)
      have d1 : wr.cell? ⟨b, off + k * 5 + 1, none⟩ = some (.int .i64 (f k).2.1) := (HV.out.1.below.cell (p := ⟨b, off + k * 5 + 1, none⟩) hb).trans (hcc 1 _ rfl)
      have d2 : wr.cell? ⟨b, off + k * 5 + 2, none⟩ = some (.int .i64 (f k).2.2.1) := (HV.out.1.below.cell (p := ⟨b, off + k * 5 + 2, none⟩) hb).trans (hcc 2 _ rfl)
      have d3 : wr.cell? ⟨b, off + k * 5 + 3, none⟩ = some (.int .i64 (f k).2.2.2.1) := (HV.out.1.below.cell (p := ⟨b, off + k * 5 + 3, none⟩) hb).trans (hcc 3 _ rfl)
      have d4 : wr.cell? ⟨b, off + k * 5 + 4, none⟩ = some (.int .i64 (f k).2.2.2.2) := (HV.out.1.below.cell (p := ⟨b, off + k * 5 + 4, none⟩) hb).trans (hcc 4 _ rfl)
      have HO := Lib.hid (show OkOp (opOf f k) from ⟨(HF.out k).2.1, (HF.out k).2.2.1, (HF.out k).2.2.2.1, (HF.out k).2.2.2.2⟩)
      have hk8 : k ≤ 800 := by omega
      clear hcc
      go_wp2_with (first
        | (go_at_call 16; (with_reducible refine (near_any (opOf f k) HO.out _).mono ?_); rintro e w2 ⟨rfl, hb2⟩; have HV2 := Lib.hid (show Lo w w1.heap.size i w1.heap.size k T R w2 ∧ Inv k T ∧ Dr T from ⟨HV.out.1.call hb2, HV.out.2⟩); clear hb2)
        | (go_at_call 15; (with_reducible refine (do_any HV2.out.1.both HV2.out.1.rel hk8 (nearO (opOf f k))).mono ?_); intro e w3 ho; obtain ⟨rfl, R', HV3⟩ := HV2.out.1.step (near_lt _) ho; have HV3 := Lib.hid (show Lo w w1.heap.size i w1.heap.size (k + 1) (stepT T (nearO (opOf f k))) R' w3 ∧ Inv (k + 1) (stepT T (nearO (opOf f k))) ∧ Dr (stepT T (nearO (opOf f k))) from ⟨HV3, HV2.out.2.1.step _, HV2.out.2.2.step HV2.out.2.1 (by show (f k).2.2.2.1 % 5 < 5; omega)⟩); clear ho))
      go_roundw
      case rel => exact ⟨k + 1, _, R', by go_num, by omega, HV3⟩
      case measure => simp [intOf]; omega
    · obtain rfl : k = n := by omega
      have HBA := Lib.hid (show ∀ w', Only i.all wr w' → Below w.heap.size w w' from fun w' ho => HV.out.1.below.trans (ho.below (fun s h => HV.out.1.own s (List.mem_cons_of_mem _ h)) HV.out.1.below.size))
      have HS := Lib.hid (St.start HV.out.1.both.tb)
      have HI := Lib.hid (show Inv 50 T ∧ Dr T from ⟨HV.out.2.1.mono (by omega), HV.out.2.2⟩)
      clear HV HC HF
      obtain ⟨wA, hwA⟩ : ∃ x, x = wr := ⟨_, rfl⟩
      rw [← hwA] at HBA
      have HS1 : Hid (St wA i [] T wr) := by rw [hwA]; exact HS
      clear HS hwA
      obtain ⟨xo, m, T', hc⟩ : ∃ x m T', commitF T v g = ((x, m), T') := ⟨_, _, _, rfl⟩
      have HCM := Lib.hid hc
      by_cases hm : m = 0
      · subst hm
        cases rv with
        | false =>
          rename Ls => x
          have HQ := Lib.hid (show Inv 51 T' ∧ Ended T' x from ⟨by have := HI.out.1.commit v g; rw [hc] at this; exact this.mono (by omega), (ended_commit HI.out.1 hc).1⟩)
          clear hc
          go_wp2_with (first
            | (go_at_call 17; (with_reducible refine (K1 _).out.mono ?_); rintro e w2 ⟨rfl, rfl⟩)
            | (go_at_call 17; (with_reducible refine (K2 _).out.mono ?_); rintro e w2 ⟨rfl, rfl⟩)
            | (go_at_call 18; (with_reducible refine (commit_as HS1.out.tb HCM.out).mono ?_); intro e w3 ho; have HE := Lib.hid (show Le wA i w3.heap.size x (51 + 0) T' (w3.alloc (.cells (lc x) 46)) from ⟨(St.mk (HS1.out.mm.turn ho.2.2) ho.2.1).push w3.heap.size (lc x) 46 rfl, HQ.out.1, HQ.out.2⟩); obtain ⟨rfl, -⟩ := ho))
          (
            go_loopw [22] (fun kk wr => ∃ (k : Nat) (T : Tb), kk = .int .i64 k ∧ k ≤ n2 ∧ Hid (Le wA i w3.heap.size x (51 + k) T wr)) (fun kk _ => n2 - (intOf kk).toNat)
            case atStart => exact ⟨0, _, rfl, by omega, HE⟩
            case round =>
              rename World => wr
              obtain ⟨k, T, rfl, hk, HV⟩ := hrel
              clear HE
              by_cases hkn : k < n2
              · obtain ⟨b, off, rfl, hb, hcc⟩ := HC2.out k hkn
                have hwr : Below w.heap.size w wr := HBA.out _ HV.out.st.mm.only
                have d0 : wr.cell? ⟨b, off + k * 5, none⟩ = some (.int .i64 (f2 k).1) := (hwr.cell (p := ⟨b, off + k * 5, none⟩) hb).trans (hcc 0 _ rfl)
                have d1 : wr.cell? ⟨b, off + k * 5 + 1, none⟩ = some (.int .i64 (f2 k).2.1) := (hwr.cell (p := ⟨b, off + k * 5 + 1, none⟩) hb).trans (hcc 1 _ rfl)
                have d2 : wr.cell? ⟨b, off + k * 5 + 2, none⟩ = some (.int .i64 (f2 k).2.2.1) := (hwr.cell (p := ⟨b, off + k * 5 + 2, none⟩) hb).trans (hcc 2 _ rfl)
                have d3 : wr.cell? ⟨b, off + k * 5 + 3, none⟩ = some (.int .i64 (f2 k).2.2.2.1) := (hwr.cell (p := ⟨b, off + k * 5 + 3, none⟩) hb).trans (hcc 3 _ rfl)
                have d4 : wr.cell? ⟨b, off + k * 5 + 4, none⟩ = some (.int .i64 (f2 k).2.2.2.2) := (hwr.cell (p := ⟨b, off + k * 5 + 4, none⟩) hb).trans (hcc 4 _ rfl)
                have hk8 : 51 + k ≤ 900 := by omega
                clear hcc hwr
                obtain ⟨o, ho⟩ : ∃ o, nearO (opOf f2 k) = o := ⟨_, rfl⟩
                have HN := fun w => Lib.hid (ho ▸ near_any (opOf f2 k) ⟨(HF2.out k).2.1, (HF2.out k).2.2.1, (HF2.out k).2.2.2.1, (HF2.out k).2.2.2.2⟩ w)
                clear ho
                obtain ⟨kd, ov, of, od, ox⟩ := o
                by_cases h1 : kd = 1
                · subst h1
                  obtain ⟨ra, rb, T', hT⟩ : ∃ a b T', placeF T ov of od ox = ((a, b), T') := ⟨_, _, _, rfl⟩
                  have HT := Lib.hid hT
                  have HQ := Lib.hid (show Inv (51 + k + 1) T' ∧ Ended T' x from ⟨by have := HV.out.inv.place ov of od ox; rw [hT] at this; exact this, by have := HV.out.ended.place ov of od ox; rw [hT] at this; exact this⟩)
                  clear hT
                  go_wp2_with (first
                    | (go_at_call 16; (with_reducible refine (HN _).out.mono ?_); rintro e w2 ⟨rfl, hb2⟩; have HV2 := Lib.hid ((HV.out.call hb2).call (below_alloc _ (.cells (oc ⟨1, ov, of, od, ox⟩) 42))); obtain ⟨c0, c1, c2, c3, c4, -⟩ := (Holds.new w2 (oc ⟨1, ov, of, od, ox⟩) 42).lay5; clear hb2)
                    | (go_at_call 23; (with_reducible refine (place_as HV2.out.st.tb (HV2.out.small hk8) HT.out).mono ?_); intro e w6 ho; have HV3 := Lib.hid (HV2.out.turn ho HQ.out.1 HQ.out.2); obtain ⟨rfl, -⟩ := ho; obtain ⟨x0, x1, x2, x3, x4, x5, -⟩ := HV3.out.st.mm.lay6 0 rfl)
                    | (go_at_call 20; (with_reducible refine (judge_as HV3.out.st.tb HV3.out.ended.judge).mono ?_); rintro e w4 ⟨rfl, hb4⟩; have HV4 := Lib.hid (HV3.out.call hb4); clear hb4))
                  go_roundw
                  case rel => exact ⟨k + 1, _, by go_num, by omega, HV4⟩
                  case measure => simp [intOf]; omega
                by_cases h2 : kd = 2
                · subst h2
                  obtain ⟨ra, rb, T', hT⟩ : ∃ a b T', grantF T ov of od ox = ((a, b), T') := ⟨_, _, _, rfl⟩
                  have HT := Lib.hid hT
                  have HQ := Lib.hid (show Inv (51 + k + 1) T' ∧ Ended T' x from ⟨by have := HV.out.inv.grant ov of od ox; rw [hT] at this; exact this, by have := HV.out.ended.grant ov of od ox; rw [hT] at this; exact this⟩)
                  clear hT h1
                  go_wp2_with (first
                    | (go_at_call 16; (with_reducible refine (HN _).out.mono ?_); rintro e w2 ⟨rfl, hb2⟩; have HV2 := Lib.hid ((HV.out.call hb2).call (below_alloc _ (.cells (oc ⟨2, ov, of, od, ox⟩) 42))); obtain ⟨c0, c1, c2, c3, c4, -⟩ := (Holds.new w2 (oc ⟨2, ov, of, od, ox⟩) 42).lay5; clear hb2)
                    | (go_at_call 21; (with_reducible refine (grant_as HV2.out.st.tb (HV2.out.small hk8) HT.out).mono ?_); intro e w6 ho; have HV3 := Lib.hid (HV2.out.turn ho HQ.out.1 HQ.out.2); obtain ⟨rfl, -⟩ := ho; obtain ⟨x0, x1, x2, x3, x4, x5, -⟩ := HV3.out.st.mm.lay6 0 rfl)
                    | (go_at_call 20; (with_reducible refine (judge_as HV3.out.st.tb HV3.out.ended.judge).mono ?_); rintro e w4 ⟨rfl, hb4⟩; have HV4 := Lib.hid (HV3.out.call hb4); clear hb4))
                  go_roundw
                  case rel => exact ⟨k + 1, _, by go_num, by omega, HV4⟩
                  case measure => simp [intOf]; omega
                by_cases h3 : kd = 3
                · subst h3
                  obtain ⟨ra, rb, T', hT⟩ : ∃ a b T', commitF T ov of = ((a, b), T') := ⟨_, _, _, rfl⟩
                  have HT := Lib.hid hT
                  have HQ := Lib.hid (show Inv (51 + k + 1) T' ∧ Ended T' x from ⟨by have := (HV.out.inv.commit ov of).mono (Nat.le_succ _); rw [hT] at this; exact this, by have := HV.out.ended.commit HV.out.inv ov of; rw [hT] at this; exact this⟩)
                  clear hT h1 h2
                  go_wp2_with (first
                    | (go_at_call 16; (with_reducible refine (HN _).out.mono ?_); rintro e w2 ⟨rfl, hb2⟩; have HV2 := Lib.hid ((HV.out.call hb2).call (below_alloc _ (.cells (oc ⟨3, ov, of, od, ox⟩) 42))); obtain ⟨c0, c1, c2, c3, c4, -⟩ := (Holds.new w2 (oc ⟨3, ov, of, od, ox⟩) 42).lay5; clear hb2)
                    | (go_at_call 18; (with_reducible refine (commit_as HV2.out.st.tb HT.out).mono ?_); intro e w6 ho; have HV3 := Lib.hid (HV2.out.turn ho HQ.out.1 HQ.out.2); obtain ⟨rfl, -⟩ := ho; obtain ⟨x0, x1, x2, x3, x4, x5, -⟩ := HV3.out.st.mm.lay6 0 rfl)
                    | (go_at_call 20; (with_reducible refine (judge_as HV3.out.st.tb HV3.out.ended.judge).mono ?_); rintro e w4 ⟨rfl, hb4⟩; have HV4 := Lib.hid (HV3.out.call hb4); clear hb4))
                  go_roundw
                  case rel => exact ⟨k + 1, _, by go_num, by omega, HV4⟩
                  case measure => simp [intOf]; omega
                by_cases h4 : kd = 4
                · subst h4
                  obtain ⟨ra, rb, T', hT⟩ : ∃ a b T', endF T ov of = ((a, b), T') := ⟨_, _, _, rfl⟩
                  have HT := Lib.hid hT
                  have HQ := Lib.hid (show Inv (51 + k + 1) T' ∧ Ended T' x from ⟨by have := (HV.out.inv.end ov of).mono (Nat.le_succ _); rw [hT] at this; exact this, by have := HV.out.ended.end ov of; rw [hT] at this; exact this⟩)
                  clear hT h1 h2 h3
                  go_wp2_with (first
                    | (go_at_call 16; (with_reducible refine (HN _).out.mono ?_); rintro e w2 ⟨rfl, hb2⟩; have HV2 := Lib.hid ((HV.out.call hb2).call (below_alloc _ (.cells (oc ⟨4, ov, of, od, ox⟩) 42))); obtain ⟨c0, c1, c2, c3, c4, -⟩ := (Holds.new w2 (oc ⟨4, ov, of, od, ox⟩) 42).lay5; clear hb2)
                    | (go_at_call 22; (with_reducible refine (revoke_as HV2.out.st.tb HT.out).mono ?_); intro e w6 ho; have HV3 := Lib.hid (HV2.out.turn ho HQ.out.1 HQ.out.2); obtain ⟨rfl, -⟩ := ho; obtain ⟨x0, x1, x2, x3, x4, x5, -⟩ := HV3.out.st.mm.lay6 0 rfl)
                    | (go_at_call 20; (with_reducible refine (judge_as HV3.out.st.tb HV3.out.ended.judge).mono ?_); rintro e w4 ⟨rfl, hb4⟩; have HV4 := Lib.hid (HV3.out.call hb4); clear hb4))
                  go_roundw
                  case rel => exact ⟨k + 1, _, by go_num, by omega, HV4⟩
                  case measure => simp [intOf]; omega
                · have q1 : (kd == 1) = false := by simpa using h1
                  have q2 : (kd == 2) = false := by simpa using h2
                  have q3 : (kd == 3) = false := by simpa using h3
                  have q4 : (kd == 4) = false := by simpa using h4
                  clear h1 h2 h3 h4
                  go_wp2_with (first
                    | (go_at_call 16; (with_reducible refine (HN _).out.mono ?_); rintro e w2 ⟨rfl, hb2⟩; have HV2 := Lib.hid ((HV.out.call hb2).call (below_alloc _ (.cells (oc ⟨kd, ov, of, od, ox⟩) 42))); obtain ⟨c0, c1, c2, c3, c4, -⟩ := (Holds.new w2 (oc ⟨kd, ov, of, od, ox⟩) 42).lay5; obtain ⟨x0, x1, x2, x3, x4, x5, -⟩ := HV2.out.st.mm.lay6 0 rfl; clear hb2)
                    | (go_at_call 20; (with_reducible refine (judge_as HV2.out.st.tb HV2.out.ended.judge).mono ?_); rintro e w4 ⟨rfl, hb4⟩; have HV4 := Lib.hid (HV2.out.call hb4).next; clear hb4))
                  go_roundw
                  case rel => exact ⟨k + 1, _, by go_num, by omega, HV4⟩
                  case measure => simp [intOf]; omega
              · obtain rfl : k = n2 := by omega
                go_wp2_with (first
                  | (go_at_call 10; (with_reducible refine (awake_any _).mono ?_); rintro e w5 ⟨rfl, hb⟩; have HB := Lib.hid (HBA.out _ (HV.out.call hb).st.mm.only); clear hb))
                go_ret
                exact ⟨rfl, HB.out⟩)
        | true =>
          obtain ⟨y, ey, jy, gg, T2, x, T3, hg, hz, hzm, hen, hin⟩ := ended_revoke HI.out.1 HI.out.2 hc HFB.out
          have HJ1 := Lib.hid jy
          have HJ2 := Lib.hid (show judgeF T' v g xo.drive xo.gen = 3 by have := ended_commit HI.out.1 hc; have h3 := this.1.judge; rw [this.2.1, this.2.2] at h3; exact h3)
          have HY1 := Lib.hid (show (T'.h (v, g)).getD noL = y by rw [ey]; rfl)
          have HY2 := Lib.hid (show (T'.h (v, g)).isSome = true by rw [ey]; rfl)
          have HG := Lib.hid hg
          have HZ := Lib.hid hz
          have HZM := Lib.hid hzm
          have HEN := Lib.hid hen
          have HIN := Lib.hid (hin.mono (show 50 + 1 ≤ 51 by omega))
          have HI9 : Inv 50 T' := by have := HI.out.1.commit v g; rw [hc] at this; exact this
          have HSM := Lib.hid (show Small T' from fun k => by have := HI9.gs k; omega)
          clear HI9
          clear hc ey jy hg hz hzm hen hin
          go_wp2_with (first
            | (go_at_call 17; (with_reducible refine (K1 _).out.mono ?_); rintro e w2 ⟨rfl, rfl⟩)
            | (go_at_call 17; (with_reducible refine (K2 _).out.mono ?_); rintro e w2 ⟨rfl, rfl⟩)
            | (go_at_call 18; (with_reducible refine (commit_as HS1.out.tb HCM.out).mono ?_); intro e w3 ho; have HE1 := Lib.hid (show St wA i [(w3.heap.size, lc xo)] T' (w3.alloc (.cells (lc xo) 46)) from (St.mk (HS1.out.mm.turn ho.2.2) ho.2.1).push w3.heap.size (lc xo) 46 rfl); obtain ⟨rfl, -⟩ := ho)
            | (go_at_call 19; (with_reducible refine (home_as HE1.out.tb v g HY1.out HY2.out).mono ?_); rintro e w4 ⟨rfl, hb⟩; have HE2 := Lib.hid ((HE1.out.call hb).push w4.heap.size (lc y) 46 rfl); obtain ⟨y0, y1, y2, y3, y4, y5, -⟩ := HE2.out.mm.lay6 0 rfl; clear hb)
            | (go_at_call 20; (with_reducible refine (judge_as HE2.out.tb HJ1.out).mono ?_); rintro e w5 ⟨rfl, hb⟩; have HE3 := Lib.hid (HE2.out.call hb); obtain ⟨x0, x1, x2, x3, x4, x5, -⟩ := HE3.out.mm.lay6 1 rfl; clear hb)
            | (go_at_call 20; (with_reducible refine (judge_as HE3.out.tb HJ2.out).mono ?_); rintro e w6 ⟨rfl, hb⟩; have HE4 := Lib.hid (HE3.out.call hb); clear hb)
            | (go_at_call 21; (with_reducible refine (grant_as HE4.out.tb HSM.out HG.out).mono ?_); intro e w7 ho; have HE5 := Lib.hid (show St wA i [(w4.heap.size, lc y), (w3.heap.size, lc xo)] T2 w7 from ⟨HE4.out.mm.turn ho.2.2, ho.2.1⟩); obtain ⟨rfl, -⟩ := ho)
            | (go_at_call 22; (with_reducible refine (revoke_as HE5.out.tb HZ.out).mono ?_); intro e w8 ho; have HE6 := Lib.hid (show St wA i [(w4.heap.size, lc y), (w3.heap.size, lc xo)] T3 w8 from ⟨HE5.out.mm.turn ho.2.2, ho.2.1⟩); have HE7 := Lib.hid (HE6.out.push w8.heap.size (lc x) 46 rfl); have HE8 := Lib.hid (HE7.out.put6 2 rfl (.int .i64 x.vol) (.int .i64 x.frag) (.int .i64 x.drive) (.int .i64 x.ext) (.int .i64 x.gen) (.bool true)); obtain ⟨z0, z1, z2, z3, z4, z5, -⟩ := HE7.out.mm.lay6 0 rfl; obtain ⟨u0, u1, u2, u3, u4, u5, v0, v1, v2, v3, v4, v5, vl⟩ := HE7.out.mm.lay6 2 rfl; rw [HZM.out] at z5; obtain ⟨rfl, -⟩ := ho))
          have HE8' := HE8.out.asl HZM.out
          have HE := Lib.hid (Le.mk (N := 51 + 0) HE8' HIN.out HEN.out)
          clear HE1 HE2 HE3 HE4 HE5 HE6 HE7 HE8 HE8' y0 y1 y2 y3 y4 y5 x0 x1 x2 x3 x4 x5 z0 z1 z2 z3 z4 z5 u0 u1 u2 u3 u4 u5 v0 v1 v2 v3 v4 v5 vl HJ1 HJ2 HY1 HY2 HG HZ HEN HIN HSM
          (
            go_loopw [22] (fun kk wr => ∃ (k : Nat) (T : Tb), kk = .int .i64 k ∧ k ≤ n2 ∧ Hid (Le wA i w3.heap.size x (51 + k) T wr)) (fun kk _ => n2 - (intOf kk).toNat)
            case atStart => exact ⟨0, _, rfl, by omega, HE⟩
            case round =>
              rename World => wr
              obtain ⟨k, T, rfl, hk, HV⟩ := hrel
              clear HE
              by_cases hkn : k < n2
              · obtain ⟨b, off, rfl, hb, hcc⟩ := HC2.out k hkn
                have hwr : Below w.heap.size w wr := HBA.out _ HV.out.st.mm.only
                have d0 : wr.cell? ⟨b, off + k * 5, none⟩ = some (.int .i64 (f2 k).1) := (hwr.cell (p := ⟨b, off + k * 5, none⟩) hb).trans (hcc 0 _ rfl)
                have d1 : wr.cell? ⟨b, off + k * 5 + 1, none⟩ = some (.int .i64 (f2 k).2.1) := (hwr.cell (p := ⟨b, off + k * 5 + 1, none⟩) hb).trans (hcc 1 _ rfl)
                have d2 : wr.cell? ⟨b, off + k * 5 + 2, none⟩ = some (.int .i64 (f2 k).2.2.1) := (hwr.cell (p := ⟨b, off + k * 5 + 2, none⟩) hb).trans (hcc 2 _ rfl)
                have d3 : wr.cell? ⟨b, off + k * 5 + 3, none⟩ = some (.int .i64 (f2 k).2.2.2.1) := (hwr.cell (p := ⟨b, off + k * 5 + 3, none⟩) hb).trans (hcc 3 _ rfl)
                have d4 : wr.cell? ⟨b, off + k * 5 + 4, none⟩ = some (.int .i64 (f2 k).2.2.2.2) := (hwr.cell (p := ⟨b, off + k * 5 + 4, none⟩) hb).trans (hcc 4 _ rfl)
                have hk8 : 51 + k ≤ 900 := by omega
                clear hcc hwr
                obtain ⟨o, ho⟩ : ∃ o, nearO (opOf f2 k) = o := ⟨_, rfl⟩
                have HN := fun w => Lib.hid (ho ▸ near_any (opOf f2 k) ⟨(HF2.out k).2.1, (HF2.out k).2.2.1, (HF2.out k).2.2.2.1, (HF2.out k).2.2.2.2⟩ w)
                clear ho
                obtain ⟨kd, ov, of, od, ox⟩ := o
                by_cases h1 : kd = 1
                · subst h1
                  obtain ⟨ra, rb, T', hT⟩ : ∃ a b T', placeF T ov of od ox = ((a, b), T') := ⟨_, _, _, rfl⟩
                  have HT := Lib.hid hT
                  have HQ := Lib.hid (show Inv (51 + k + 1) T' ∧ Ended T' x from ⟨by have := HV.out.inv.place ov of od ox; rw [hT] at this; exact this, by have := HV.out.ended.place ov of od ox; rw [hT] at this; exact this⟩)
                  clear hT
                  go_wp2_with (first
                    | (go_at_call 16; (with_reducible refine (HN _).out.mono ?_); rintro e w2 ⟨rfl, hb2⟩; have HV2 := Lib.hid ((HV.out.call hb2).call (below_alloc _ (.cells (oc ⟨1, ov, of, od, ox⟩) 42))); obtain ⟨c0, c1, c2, c3, c4, -⟩ := (Holds.new w2 (oc ⟨1, ov, of, od, ox⟩) 42).lay5; clear hb2)
                    | (go_at_call 23; (with_reducible refine (place_as HV2.out.st.tb (HV2.out.small hk8) HT.out).mono ?_); intro e w6 ho; have HV3 := Lib.hid (HV2.out.turn ho HQ.out.1 HQ.out.2); obtain ⟨rfl, -⟩ := ho; obtain ⟨x0, x1, x2, x3, x4, x5, -⟩ := HV3.out.st.mm.lay6 0 rfl)
                    | (go_at_call 20; (with_reducible refine (judge_as HV3.out.st.tb HV3.out.ended.judge).mono ?_); rintro e w4 ⟨rfl, hb4⟩; have HV4 := Lib.hid (HV3.out.call hb4); clear hb4))
                  go_roundw
                  case rel => exact ⟨k + 1, _, by go_num, by omega, HV4⟩
                  case measure => simp [intOf]; omega
                by_cases h2 : kd = 2
                · subst h2
                  obtain ⟨ra, rb, T', hT⟩ : ∃ a b T', grantF T ov of od ox = ((a, b), T') := ⟨_, _, _, rfl⟩
                  have HT := Lib.hid hT
                  have HQ := Lib.hid (show Inv (51 + k + 1) T' ∧ Ended T' x from ⟨by have := HV.out.inv.grant ov of od ox; rw [hT] at this; exact this, by have := HV.out.ended.grant ov of od ox; rw [hT] at this; exact this⟩)
                  clear hT h1
                  go_wp2_with (first
                    | (go_at_call 16; (with_reducible refine (HN _).out.mono ?_); rintro e w2 ⟨rfl, hb2⟩; have HV2 := Lib.hid ((HV.out.call hb2).call (below_alloc _ (.cells (oc ⟨2, ov, of, od, ox⟩) 42))); obtain ⟨c0, c1, c2, c3, c4, -⟩ := (Holds.new w2 (oc ⟨2, ov, of, od, ox⟩) 42).lay5; clear hb2)
                    | (go_at_call 21; (with_reducible refine (grant_as HV2.out.st.tb (HV2.out.small hk8) HT.out).mono ?_); intro e w6 ho; have HV3 := Lib.hid (HV2.out.turn ho HQ.out.1 HQ.out.2); obtain ⟨rfl, -⟩ := ho; obtain ⟨x0, x1, x2, x3, x4, x5, -⟩ := HV3.out.st.mm.lay6 0 rfl)
                    | (go_at_call 20; (with_reducible refine (judge_as HV3.out.st.tb HV3.out.ended.judge).mono ?_); rintro e w4 ⟨rfl, hb4⟩; have HV4 := Lib.hid (HV3.out.call hb4); clear hb4))
                  go_roundw
                  case rel => exact ⟨k + 1, _, by go_num, by omega, HV4⟩
                  case measure => simp [intOf]; omega
                by_cases h3 : kd = 3
                · subst h3
                  obtain ⟨ra, rb, T', hT⟩ : ∃ a b T', commitF T ov of = ((a, b), T') := ⟨_, _, _, rfl⟩
                  have HT := Lib.hid hT
                  have HQ := Lib.hid (show Inv (51 + k + 1) T' ∧ Ended T' x from ⟨by have := (HV.out.inv.commit ov of).mono (Nat.le_succ _); rw [hT] at this; exact this, by have := HV.out.ended.commit HV.out.inv ov of; rw [hT] at this; exact this⟩)
                  clear hT h1 h2
                  go_wp2_with (first
                    | (go_at_call 16; (with_reducible refine (HN _).out.mono ?_); rintro e w2 ⟨rfl, hb2⟩; have HV2 := Lib.hid ((HV.out.call hb2).call (below_alloc _ (.cells (oc ⟨3, ov, of, od, ox⟩) 42))); obtain ⟨c0, c1, c2, c3, c4, -⟩ := (Holds.new w2 (oc ⟨3, ov, of, od, ox⟩) 42).lay5; clear hb2)
                    | (go_at_call 18; (with_reducible refine (commit_as HV2.out.st.tb HT.out).mono ?_); intro e w6 ho; have HV3 := Lib.hid (HV2.out.turn ho HQ.out.1 HQ.out.2); obtain ⟨rfl, -⟩ := ho; obtain ⟨x0, x1, x2, x3, x4, x5, -⟩ := HV3.out.st.mm.lay6 0 rfl)
                    | (go_at_call 20; (with_reducible refine (judge_as HV3.out.st.tb HV3.out.ended.judge).mono ?_); rintro e w4 ⟨rfl, hb4⟩; have HV4 := Lib.hid (HV3.out.call hb4); clear hb4))
                  go_roundw
                  case rel => exact ⟨k + 1, _, by go_num, by omega, HV4⟩
                  case measure => simp [intOf]; omega
                by_cases h4 : kd = 4
                · subst h4
                  obtain ⟨ra, rb, T', hT⟩ : ∃ a b T', endF T ov of = ((a, b), T') := ⟨_, _, _, rfl⟩
                  have HT := Lib.hid hT
                  have HQ := Lib.hid (show Inv (51 + k + 1) T' ∧ Ended T' x from ⟨by have := (HV.out.inv.end ov of).mono (Nat.le_succ _); rw [hT] at this; exact this, by have := HV.out.ended.end ov of; rw [hT] at this; exact this⟩)
                  clear hT h1 h2 h3
                  go_wp2_with (first
                    | (go_at_call 16; (with_reducible refine (HN _).out.mono ?_); rintro e w2 ⟨rfl, hb2⟩; have HV2 := Lib.hid ((HV.out.call hb2).call (below_alloc _ (.cells (oc ⟨4, ov, of, od, ox⟩) 42))); obtain ⟨c0, c1, c2, c3, c4, -⟩ := (Holds.new w2 (oc ⟨4, ov, of, od, ox⟩) 42).lay5; clear hb2)
                    | (go_at_call 22; (with_reducible refine (revoke_as HV2.out.st.tb HT.out).mono ?_); intro e w6 ho; have HV3 := Lib.hid (HV2.out.turn ho HQ.out.1 HQ.out.2); obtain ⟨rfl, -⟩ := ho; obtain ⟨x0, x1, x2, x3, x4, x5, -⟩ := HV3.out.st.mm.lay6 0 rfl)
                    | (go_at_call 20; (with_reducible refine (judge_as HV3.out.st.tb HV3.out.ended.judge).mono ?_); rintro e w4 ⟨rfl, hb4⟩; have HV4 := Lib.hid (HV3.out.call hb4); clear hb4))
                  go_roundw
                  case rel => exact ⟨k + 1, _, by go_num, by omega, HV4⟩
                  case measure => simp [intOf]; omega
                · have q1 : (kd == 1) = false := by simpa using h1
                  have q2 : (kd == 2) = false := by simpa using h2
                  have q3 : (kd == 3) = false := by simpa using h3
                  have q4 : (kd == 4) = false := by simpa using h4
                  clear h1 h2 h3 h4
                  go_wp2_with (first
                    | (go_at_call 16; (with_reducible refine (HN _).out.mono ?_); rintro e w2 ⟨rfl, hb2⟩; have HV2 := Lib.hid ((HV.out.call hb2).call (below_alloc _ (.cells (oc ⟨kd, ov, of, od, ox⟩) 42))); obtain ⟨c0, c1, c2, c3, c4, -⟩ := (Holds.new w2 (oc ⟨kd, ov, of, od, ox⟩) 42).lay5; obtain ⟨x0, x1, x2, x3, x4, x5, -⟩ := HV2.out.st.mm.lay6 0 rfl; clear hb2)
                    | (go_at_call 20; (with_reducible refine (judge_as HV2.out.st.tb HV2.out.ended.judge).mono ?_); rintro e w4 ⟨rfl, hb4⟩; have HV4 := Lib.hid (HV2.out.call hb4).next; clear hb4))
                  go_roundw
                  case rel => exact ⟨k + 1, _, by go_num, by omega, HV4⟩
                  case measure => simp [intOf]; omega
              · obtain rfl : k = n2 := by omega
                go_wp2_with (first
                  | (go_at_call 10; (with_reducible refine (awake_any _).mono ?_); rintro e w5 ⟨rfl, hb⟩; have HB := Lib.hid (HBA.out _ (HV.out.call hb).st.mm.only); clear hb))
                go_ret
                exact ⟨rfl, HB.out⟩)
      · have hm0 : m = 110 := by
          rcases commitF_ok HI.out.1 hc with ⟨h, _⟩ | ⟨_, _, h⟩
          · exact absurd h hm
          · exact h HFB.out
        subst hm0
        clear hc hm
        cases rv <;>
        (go_wp2_with (first
            | (go_at_call 17; (with_reducible refine (K1 _).out.mono ?_); rintro e w2 ⟨rfl, rfl⟩)
            | (go_at_call 17; (with_reducible refine (K2 _).out.mono ?_); rintro e w2 ⟨rfl, rfl⟩)
            | (go_at_call 18; (with_reducible refine (commit_as HS1.out.tb HCM.out).mono ?_); intro e w3 ho; have HB3 := Lib.hid ((HBA.out _ (HS1.out.mm.only.trans ho.2.2)).alloc (HBA.out _ (HS1.out.mm.only.trans ho.2.2)).size (.cells (lc xo) 46)); obtain ⟨rfl, -⟩ := ho)
            | (go_at_call 10; (with_reducible refine (awake_any _).mono ?_); rintro e w4 ⟨rfl, hb⟩; have HB4 := Lib.hid (HB3.out.trans (hb.mono HB3.out.size)); clear hb))
         go_ret
         exact ⟨rfl, HB4.out⟩)
end Go.Proofs.Ytnhpjmjinchamaa
