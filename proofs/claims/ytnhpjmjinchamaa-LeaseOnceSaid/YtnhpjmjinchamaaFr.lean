/- The walk of LeaseFree. -/
import Derived.Test.YtnhpjmjinchamaaDb
import Derived.Test.YtnhpjmjinchamaaSq
import Derived.LoopTactic
set_option linter.unusedVariables false
set_option linter.unusedSimpArgs false
set_option linter.unnecessarySimpa false
namespace Go.Proofs.Ytnhpjmjinchamaa
open Go Go.RowKit

theorem zero_at (i : Nat) (h : i < 96) : Try.zeroCells39[i]? = some (.int .i64 0) := by
  have e : Try.zeroCells39.toList.take 96 = List.replicate 96 (.int .i64 0) := by kernel_rfl
  have h2 : (Try.zeroCells39.toList.take 96)[i]? = some (.int .i64 0) := by rw [e, List.getElem?_replicate, if_pos h]
  rw [List.getElem?_take, if_pos h] at h2
  simpa using h2
theorem rf_start (w : World) : RfAt (w.alloc (.cells Try.zeroCells39 39)) w.heap.size w.heap.size noR := by
  have e96 : Try.zeroCells39[96]? = some (.slice none 0 0) := by kernel_rfl
  have e97 : Try.zeroCells39[97]? = some (.int .i64 0) := by kernel_rfl
  have e98 : Try.zeroCells39[98]? = some (.int .i64 0) := by kernel_rfl
  refine ⟨Nat.le_refl _, by simp, fun v f hv hf => ?_, ⟨.slice none 0 0, ?_, World.ownsRow_nil _ _ _ _, by simp [Value.ownBlock]⟩, ?_, ?_, thaw_new _ _ _, by simp [noR]⟩
  · rw [World.cell?_alloc_new]; exact zero_at _ (by omega)
  · rw [World.cell?_alloc_new]; exact e96
  · rw [World.cell?_alloc_new]; exact e97
  · rw [World.cell?_alloc_new]; exact e98
theorem both_start {w : World} {i : Ids} (h : TbAt w i noT) : Both w.heap.size i w.heap.size noT noR (w.alloc (.cells Try.zeroCells39 39)) :=
  ⟨h.below (below_alloc _ _), rf_start w, h.lt⟩

/-- no home lies in the volumes from 3 on -/
def Low (T : Tb) : Prop := ∀ v f, 3 ≤ v → T.h (v, f) = none
theorem Low.start : Low noT := fun _ _ _ => rfl
theorem Low.upd {T : Tb} (h : Low T) {v f : Int} (hv : v < 3) (o : Option Ls) : ∀ v' f', 3 ≤ v' → upd T.h (v, f) o (v', f') = none := fun v' f' h3 => by
  rw [upd_other]
  · exact h v' f' h3
  · intro e; cases e; omega
theorem Low.end {T : Tb} (h : Low T) (v f : Int) : Low (endF T v f).2 := by
  unfold endF
  split
  · split <;> exact h
  · exact h
theorem Low.step {T : Tb} (h : Low T) {o : Opc} (hv : o.vol < 3) : Low (stepT T o) := by
  unfold stepT
  split
  · unfold placeF
    split
    · split
      · exact h
      · exact Low.upd h hv _
    · exact h
  split
  · unfold grantF
    split
    · split
      · exact h
      · exact h
    · exact h
  split
  · unfold commitF
    split
    · exact Low.upd (h.end _ _) hv _
    · exact h.end _ _
  split
  · exact h.end _ _
  split
  · unfold advF
    split
    · exact h
    · split <;> exact h
  split
  · unfold verF
    split
    · exact h
    · split <;> exact h
  · exact h

/-- a law's loop over calls -/
structure Lo (w : World) (B : Nat) (i : Ids) (rb : Nat) (N : Nat) (T : Tb) (R : Rf) (wr : World) : Prop where
  both : Both B i rb T R wr
  rel : Rel N T R
  low : Low T
  below : Below w.heap.size w wr
  own : ∀ s ∈ rb :: i.all, w.heap.size ≤ s
theorem Lo.call {w : World} {B : Nat} {i : Ids} {rb N : Nat} {T : Tb} {R : Rf} {wr w' : World} (h : Lo w B i rb N T R wr) (hb : Below wr.heap.size wr w') : Lo w B i rb N T R w' :=
  ⟨h.both.call hb, h.rel, h.low, h.below.trans (hb.mono h.below.size), h.own⟩
theorem Lo.step {w : World} {B : Nat} {i : Ids} {rb N : Nat} {T : Tb} {R : Rf} {wr w' : World} {e : Ending} {o : Opc} (h : Lo w B i rb N T R wr) (hv : o.vol < 3) (hd : DoPost (N + 1) B i rb (stepT T o) wr e w') : e = .returned (.bool true) ∧ ∃ R', Lo w B i rb (N + 1) (stepT T o) R' w' := by
  obtain ⟨h1, R', h2, h3, h4⟩ := hd
  exact ⟨h1, R', h3, h2, h.low.step hv, h.below.trans (h4.below h.own h.below.size), h.own⟩

theorem near_lt (o : Opc) : (nearO o).vol < 3 := by unfold nearO; show o.vol % 3 < 3; omega
abbrev opOf (f : Nat → Int × Int × Int × Int × Int) (k : Nat) : Opc := ⟨(f k).1, (f k).2.1, (f k).2.2.1, (f k).2.2.2.1, (f k).2.2.2.2⟩

def cntU (U : Pk → Option Ls) (d : Int) : Nat → Nat
  | 0 => 0
  | k + 1 => cntU U d k + if (U (d, (k : Int))).isSome then 1 else 0
theorem cntU_le (U : Pk → Option Ls) (d : Int) : ∀ k, cntU U d k ≤ k
  | 0 => Nat.le_refl 0
  | k + 1 => by have := cntU_le U d k; unfold cntU; split <;> omega
theorem cntU_all (U : Pk → Option Ls) (d : Int) : ∀ k : Nat, (∀ j : Nat, j < k → (U (d, (j : Int))).isSome = true) → cntU U d k = k
  | 0, _ => rfl
  | k + 1, h => by
    have := cntU_all U d k fun j hj => h j (by omega)
    unfold cntU
    rw [if_pos (h k (by omega)), this]
theorem cntU_lt (U : Pk → Option Ls) (d : Int) (j : Nat) (hj : U (d, (j : Int)) = none) : ∀ k : Nat, j < k → cntU U d k < k
  | 0, h => by omega
  | k + 1, h => by
    unfold cntU
    by_cases e : j = k
    · subst e
      rw [hj]
      have := cntU_le U d j
      simp
      omega
    · have := cntU_lt U d j hj k (by omega)
      split <;> omega

theorem free_ne {U : Pk → Option Ls} {d n r r' : Int} (h : FreeIs U d n r') (h0 : 0 ≤ r) (hU : U (d, r) ≠ none) : (r' != r) = true := by
  have : r' ≠ r := by
    rcases h with ⟨h, _⟩ | ⟨_, _, _, h, _⟩
    · omega
    · intro e; rw [e] at h; exact hU h
  simpa using this

set_option maxRecDepth 20000 in
set_option maxHeartbeats 8000000 in
theorem free_law (a : Option Addr) (n cap : Nat) (f : Nat → Int × Int × Int × Int × Int) (dr ex vo fr : Int) (w : World) (hl : Seq w (.slice a n cap) 5 n (fun i => [.int .i64 (f i).1, .int .i64 (f i).2.1, .int .i64 (f i).2.2.1, .int .i64 (f i).2.2.2.1, .int .i64 (f i).2.2.2.2]))
    (hf : ∀ i, In64 (f i).1 ∧ In64 (f i).2.1 ∧ In64 (f i).2.2.1 ∧ In64 (f i).2.2.2.1 ∧ In64 (f i).2.2.2.2) (hdr : In64 dr) (hex : In64 ex) (hvo : In64 vo) (hfr : In64 fr) :
    Calls Try.prog 5 #[.slice a n cap, .int .i64 dr, .int .i64 ex, .int .i64 vo, .int .i64 fr] w fun e w' => e = .returned (.bool true) ∧ Below w.heap.size w w' := by
  obtain ⟨a', cap', hv, hcap, hn63, hcell⟩ := hl
  cases hv
  have HC := Lib.hid hcell
  have HF := Lib.hid hf
  clear hcell hcap hf
  by_cases h60 : 60 < n
  · go_enter Try.func5, Try.ntmps5
    go_wp2_with (first
      | (go_at_call 10; (with_reducible refine (awake_any _).mono ?_); rintro e w1 ⟨rfl, hb⟩; have HB := Lib.hid hb; clear hb))
    go_ret
    exact ⟨rfl, HB.out⟩
  obtain ⟨nd, hnd⟩ : ∃ x, dr % 24 = x := ⟨_, rfl⟩
  obtain ⟨ne, hne⟩ : ∃ x : Nat, ex % 17 = x := ⟨(ex % 17).toNat, by omega⟩
  obtain ⟨nv, hnv⟩ : ∃ x, vo % 4 = x := ⟨_, rfl⟩
  obtain ⟨nf, hnf⟩ : ∃ x, fr % 8 = x := ⟨_, rfl⟩
  have K1 := fun w => Lib.hid (hnd ▸ within_any dr 24 w (by omega) (by omega) hdr.1 hdr.2)
  have K2 := fun w => Lib.hid (hne ▸ within_any ex 17 w (by omega) (by omega) hex.1 hex.2)
  have K3 := fun w => Lib.hid (hnv ▸ within_any vo 4 w (by omega) (by omega) hvo.1 hvo.2)
  have K4 := fun w => Lib.hid (hnf ▸ within_any fr 8 w (by omega) (by omega) hfr.1 hfr.2)
  have b1 : 0 ≤ nd ∧ nd < 24 := by omega
  have b2 : ne < 17 := by omega
  have b3 : 0 ≤ nv ∧ nv < 4 := by omega
  have b4 : 0 ≤ nf ∧ nf < 8 := by omega
  clear hnd hne hnv hnf hdr hex hvo hfr
  go_enter Try.func5, Try.ntmps5
  go_wp2_with (first
    | (go_at_call 11; (with_reducible refine (new_any _).mono ?_); rintro e w1 ⟨i, rfl, hs, ht, hb⟩; have HL := Lib.hid (Lo.mk (w := w) (both_start ht) Rel.start Low.start (hb.alloc hb.size _) (fun s h => (List.mem_cons.1 h).elim (fun e => e ▸ hb.size) (hs s))); clear hs ht hb))
  go_loopw [13] (fun kk wr => ∃ (k : Nat) (T : Tb) (R : Rf), kk = .int .i64 k ∧ k ≤ n ∧ Hid (Lo w w1.heap.size i w1.heap.size k T R wr)) (fun kk _ => n - (intOf kk).toNat)
  case atStart => exact ⟨0, noT, noR, rfl, by omega, HL⟩
  case round =>
    rename World => wr
    obtain ⟨k, T, R, rfl, hk, HV⟩ := hrel
    clear HL
    by_cases hkn : k < n
    · obtain ⟨b, off, rfl, hb, hcc⟩ := HC.out k hkn
      have d0 : wr.cell? ⟨b, off + k * 5, none⟩ = some (.int .i64 (f k).1) := (HV.out.below.cell (p := ⟨b, off + k * 5, none⟩) hb).trans (hcc 0 _ rfl)
      have d1 : wr.cell? ⟨b, off + k * 5 + 1, none⟩ = some (.int .i64 (f k).2.1) := (HV.out.below.cell (p := ⟨b, off + k * 5 + 1, none⟩) hb).trans (hcc 1 _ rfl)
      have d2 : wr.cell? ⟨b, off + k * 5 + 2, none⟩ = some (.int .i64 (f k).2.2.1) := (HV.out.below.cell (p := ⟨b, off + k * 5 + 2, none⟩) hb).trans (hcc 2 _ rfl)
      have d3 : wr.cell? ⟨b, off + k * 5 + 3, none⟩ = some (.int .i64 (f k).2.2.2.1) := (HV.out.below.cell (p := ⟨b, off + k * 5 + 3, none⟩) hb).trans (hcc 3 _ rfl)
      have d4 : wr.cell? ⟨b, off + k * 5 + 4, none⟩ = some (.int .i64 (f k).2.2.2.2) := (HV.out.below.cell (p := ⟨b, off + k * 5 + 4, none⟩) hb).trans (hcc 4 _ rfl)
      have HO := Lib.hid (show OkOp (opOf f k) from ⟨(HF.out k).2.1, (HF.out k).2.2.1, (HF.out k).2.2.2.1, (HF.out k).2.2.2.2⟩)
      have hk8 : k ≤ 800 := by omega
      clear hcc
      go_wp2_with (first
        | (go_at_call 16; (with_reducible refine (near_any (opOf f k) HO.out _).mono ?_); rintro e w2 ⟨rfl, hb2⟩; have HV2 := Lib.hid (HV.out.call hb2); clear hb2)
        | (go_at_call 15; (with_reducible refine (do_any HV2.out.both HV2.out.rel hk8 (nearO (opOf f k))).mono ?_); intro e w3 ho; obtain ⟨rfl, R', HV3⟩ := HV2.out.step (near_lt _) ho; have HV3 := Lib.hid HV3; clear ho))
      go_roundw
      case rel => exact ⟨k + 1, _, R', by go_num, by omega, HV3⟩
      case measure => simp [intOf]; omega
    · obtain rfl : k = n := by omega
      have hs := Lib.hid (small_of HV.out.rel (by omega))
      go_wp2_with (first
        | (go_at_call 17; (with_reducible refine (K1 _).out.mono ?_); rintro e w2 ⟨rfl, rfl⟩)
        | (go_at_call 17; (with_reducible refine (K2 _).out.mono ?_); rintro e w2 ⟨rfl, rfl⟩)
        | (go_at_call 24; (with_reducible refine (free_any HV.out.both.tb nd ne).mono ?_); rintro e w2 ⟨r, rfl, hfr, hb2⟩; have HV2 := Lib.hid (HV.out.call hb2); have HFR := Lib.hid hfr; clear hb2 hfr))
      have HFU : Hid (∀ j : Nat, j < ne → (T.u (nd, (j : Int))).isSome = true → ((j : Int) == r) = false) := fun j hj hs => by
        rcases HFR.out with ⟨rfl, _⟩ | ⟨_, _, _, q, _⟩
        · have : (j : Int) ≠ -1 := by omega
          simpa using this
        · have : (j : Int) ≠ r := fun e => by rw [e, q] at hs; cases hs
          simpa using this
      have HFD : Hid (∀ j : Nat, j < ne → (T.u (nd, (j : Int))).isSome = false → decide ((j : Int) < r) = false) := fun j hj hs => by
        rcases HFR.out with ⟨rfl, _⟩ | ⟨_, _, _, _, q⟩
        · have : ¬ (j : Int) < -1 := by omega
          simpa using this
        · have : ¬ (j : Int) < r := fun e => by rw [q j (by omega) e] at hs; cases hs
          simpa using this
      go_loopw [15, 16] (fun tk kk wx => ∃ j : Nat, kk = .int .i64 j ∧ j ≤ ne ∧ tk = .int .i64 (cntU T.u nd j) ∧ Hid (Lo w w1.heap.size i w1.heap.size k T R wx)) (fun _ kk _ => ne - (intOf kk).toNat)
      case atStart => exact ⟨0, rfl, by omega, rfl, HV2⟩
      case round =>
        rename World => wx
        obtain ⟨j, rfl, hj, rfl, HX⟩ := hrel
        clear HV2
        have hle := cntU_le T.u nd j
        by_cases hjn : j < ne
        · obtain ⟨l, hl⟩ : ∃ l, (T.u (nd, (j : Int))).getD noL = l := ⟨_, rfl⟩
          cases hU : (T.u (nd, (j : Int))).isSome with
          | true =>
            have q1 := HFU.out j hjn hU
            have HC2 := Lib.hid (show cntU T.u nd (j + 1) = cntU T.u nd j + 1 by rw [cntU, hU]; rfl)
            have H3 := Lib.hid hU
            have H4 := Lib.hid hl
            clear hU hl
            go_wp2_with (first
              | (go_at_call 25; (with_reducible refine (at_as HX.out.both.tb nd j H4.out H3.out).mono ?_); rintro e w3 ⟨rfl, hb3⟩; have HX2 := Lib.hid ((HX.out.call hb3).call (below_alloc _ (.cells (lc l) 46))); clear hb3))
            go_roundw
            case rel => exact ⟨j + 1, by go_num, by omega, by rw [HC2.out]; go_num, HX2⟩
            case measure => simp [intOf]; omega
          | false =>
            have q1 := HFD.out j hjn hU
            have HC2 := Lib.hid (show cntU T.u nd (j + 1) = cntU T.u nd j by rw [cntU, hU]; rfl)
            have H3 := Lib.hid hU
            have H4 := Lib.hid hl
            clear hU hl
            go_wp2_with (first
              | (go_at_call 25; (with_reducible refine (at_as HX.out.both.tb nd j H4.out H3.out).mono ?_); rintro e w3 ⟨rfl, hb3⟩; have HX2 := Lib.hid ((HX.out.call hb3).call (below_alloc _ (.cells (lc l) 46))); clear hb3))
            go_roundw
            case rel => exact ⟨j + 1, by go_num, by omega, by rw [HC2.out], HX2⟩
            case measure => simp [intOf]; omega
        · obtain rfl : j = ne := by omega
          obtain ⟨C, hC⟩ : ∃ C, cntU T.u nd j = C := ⟨_, rfl⟩
          by_cases hr : r < 0
          · have hr1 : r = -1 := by
              rcases HFR.out with ⟨h, _⟩ | ⟨h, _⟩
              · exact h
              · omega
            have hCn : C = j := by
              rw [← hC]
              refine cntU_all _ _ _ fun m hm => ?_
              rcases HFR.out with ⟨_, h⟩ | ⟨h, _⟩
              · exact h m (by omega) (by omega) (by unfold extB; simp; omega)
              · omega
            rw [hC]
            have qC : ((C : Int) == (j : Int)) = true := by rw [hCn]; simp
            clear hC hCn hle
            subst hr1
            clear hr
            go_wp2_with (first
              | (go_at_call 10; (with_reducible refine (awake_any _).mono ?_); rintro e w3 ⟨rfl, hb⟩; have HB := Lib.hid (HX.out.call hb).below; clear hb))
            go_ret
            exact ⟨rfl, HB.out⟩
          · have hq : 0 ≤ r ∧ r < (j : Int) ∧ extB nd r = true ∧ T.u (nd, r) = none := by
              rcases HFR.out with ⟨h, _⟩ | ⟨h1, h2, h3, h4, _⟩
              · omega
              · exact ⟨h1, h2, h3, h4⟩
            obtain ⟨r0, r1, r2, r3⟩ := hq
            have hCn : C < j := by
              rw [← hC]
              refine cntU_lt _ _ r.toNat ?_ _ (by omega)
              rw [show ((r.toNat : Nat) : Int) = r by omega]
              exact r3
            rw [hC]
            have qC : ((C : Int) == (j : Int)) = false := by simp; omega
            clear hC hCn hle
            obtain ⟨gg, T', hpl⟩ : ∃ gg T', placeF T (3 + nv) nf nd r = ((gg, 0), T') ∧ T'.u (nd, r) ≠ none := by
              unfold placeF
              rw [show fragB (3 + nv) nf = true by unfold fragB; simp; omega, r2, HX.out.low (3 + nv) nf (by omega), r3]
              exact ⟨_, _, rfl, by show upd T.u (nd, r) _ (nd, r) ≠ none; rw [upd_same]; simp⟩
            have HPL := Lib.hid hpl
            have hne0 : decide (r < 0) = false := by simpa using hr
            clear hpl r2 r3
            go_wp2_with (first
              | (go_at_call 17; (with_reducible refine (K3 _).out.mono ?_); rintro e w3 ⟨rfl, rfl⟩)
              | (go_at_call 17; (with_reducible refine (K4 _).out.mono ?_); rintro e w3 ⟨rfl, rfl⟩)
              | (go_at_call 23; (with_reducible refine (place_as HX.out.both.tb hs.out HPL.out.1).mono ?_); intro e w3 ho; have HT3 := Lib.hid ho.2.1; have HB3 := Lib.hid (HX.out.below.trans (ho.2.2.below (fun s h => HX.out.own s (List.mem_cons_of_mem _ h)) HX.out.below.size)); obtain ⟨rfl, -, -⟩ := ho)
              | (go_at_call 10; (with_reducible refine (awake_any _).mono ?_); rintro e w4 ⟨rfl, hb⟩; have HT4 := Lib.hid (HT3.out.below hb); have HB4 := Lib.hid (HB3.out.trans (hb.mono HB3.out.size)); clear hb)
              | (go_at_call 24; (with_reducible refine (free_any HT4.out nd j).mono ?_); rintro e w5 ⟨r', rfl, hfr, hb⟩; have HB5 := Lib.hid (HB4.out.trans (hb.mono HB4.out.size)); have hrr : (r' != r) = true := free_ne hfr r0 HPL.out.2; clear hb hfr))
            go_ret
            exact ⟨rfl, HB5.out⟩
end Go.Proofs.Ytnhpjmjinchamaa
