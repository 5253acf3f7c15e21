/- Walk: MarginWeakest. -/
import Derived.Test.YthljjllcdocfiaaF4
set_option linter.unusedVariables false
set_option linter.unusedSimpArgs false
set_option linter.unnecessarySimpa false
namespace Go.Proofs.Ythljjllcdocfiaa
open Go Go.ChangeShapes Go.WideShapes Go.ChangeAt Go.RowKit Go.MapKept Go.Deep Go.Joins

section
variable {H : Type} {enc : TypeId × Value → H} {w : World} {base : Nat} {held : Bool}
theorem is_of {fuel : Nat} {cs : List Value} {y : DataW H × List MemPlace} (hl : cs.length = 1) (h : DataW.trod enc Try.prog w base (fun _ => true) held fuel 31 cs = some y) :
    ∃ x : Hd, cs = eH.f x ∧ ∃ r : List Int, Rd eI w (hv x) r ∧ ∀ z ∈ r, In64 z := by
  obtain ⟨c, rfl⟩ : ∃ c, cs = [c] := by
    match cs, hl with
    | [c], _ => exact ⟨c, rfl⟩
  obtain ⟨a', len', cap', f, e, hc, hs, hg⟩ := open_rows1 (v := c) (Good := fun cs => ∃ x : Int, cs = eI.f x ∧ In64 x) Try.underlying31 (k := 1) (by kernel_rfl) (by omega) (fun hl h => one3 hl h) h
  subst e
  obtain ⟨l, h1, h2, h3⟩ := rd_of_seq (E := eI) hs hc (fun i hi => (hg i hi).1)
  exact ⟨(a', len', cap'), rfl, l, h2, h3⟩
theorem open_groups {a : Option Addr} {len cap : Nat} {d : DataW H} {ps : List MemPlace} (h : DataW.Trod enc Try.prog w base (fun _ => true) held 35 (.slice a len cap) d ps) :
    ∃ (hs : List Hd) (G : List (List Int)), RR w (.slice a len cap) hs G ∧ ∀ r ∈ G, ∀ z ∈ r, In64 z := by
  obtain ⟨fuel, hf⟩ := h
  obtain ⟨a', len', cap', f, e, hc, hs, hg⟩ := open_rows1 (v := .slice a len cap) (Good := fun cs => ∃ x : Hd, cs = eH.f x ∧ ∃ r : List Int, Rd eI w (hv x) r ∧ ∀ z ∈ r, In64 z) Try.underlying35 (k := 1) (by kernel_rfl) (by omega) (fun hl h => is_of hl h) (by simpa [Value.cells] using hf)
  cases e
  obtain ⟨l, h1, h2, h3⟩ := rd_of_seq (E := eH) hs hc (fun i hi => (hg i hi).1)
  have key : ∀ l : List Hd, (∀ x ∈ l, ∃ r : List Int, Rd eI w (hv x) r ∧ ∀ z ∈ r, In64 z) → ∃ G : List (List Int), l.length = G.length ∧ (∀ (i : Nat) (x : Hd) (r : List Int), l[i]? = some x → G[i]? = some r → Rd eI w (hv x) r) ∧ ∀ r ∈ G, ∀ z ∈ r, In64 z := by
    intro l
    induction l with
    | nil => intro _; exact ⟨[], rfl, fun i x r hx => by simp at hx, fun r hr => by simp at hr⟩
    | cons y l ih =>
      intro h
      obtain ⟨r, hr, hz⟩ := h y List.mem_cons_self
      obtain ⟨G, e1, e2, e3⟩ := ih (fun x hx => h x (List.mem_cons_of_mem _ hx))
      refine ⟨r :: G, by simp [e1], fun i x q hx hq => ?_, fun q hq => ?_⟩
      · cases i with
        | zero => simp at hx hq; subst hx hq; exact hr
        | succ i => exact e2 i x q (by simpa using hx) (by simpa using hq)
      · rcases List.mem_cons.1 hq with rfl | hq
        · exact hz
        · exact e3 q hq
  obtain ⟨G, e1, e2, e3⟩ := key l h3
  exact ⟨l, G, ⟨h2, e1, e2⟩, e3⟩
end

theorem map_take {G : List (List Int)} {k : Nat} {r : List Int} (h : G[k]? = some r) : (G.take (k + 1)).map modI = (G.take k).map modI ++ [modI r] := by
  rw [List.take_add_one, h]
  simp

set_option maxHeartbeats 8000000 in
set_option maxRecDepth 20000 in
theorem weakest_law (k st : Int) (v u : Value) (l : List Cp) (hs : List Hd) (G : List (List Int)) (w : World) (h : Rd eC w v l) (hg : RR w u hs G) (h64 : ∀ c ∈ l, InC c) (hg64 : ∀ r ∈ G, ∀ z ∈ r, In64 z) (hk : In64 k) (hst : In64 st) :
    Calls Try.prog 9 #[.int .i64 k, .int .i64 st, v, u] w fun e w' => e = .returned (.bool true) ∧ Below w.heap.size w w' := by
  obtain ⟨a, cap, rfl, hlen⟩ := h.open
  obtain ⟨a2, cap2, rfl, hlen2⟩ := hg.rd.open
  have H := Lib.hid h
  have HG := Lib.hid hg
  obtain ⟨n, hn⟩ : ∃ n, l.length = n := ⟨_, rfl⟩
  have HN := Lib.hid hn
  obtain ⟨m, hm⟩ : ∃ n, hs.length = n := ⟨_, rfl⟩
  have HM := Lib.hid hm
  have HGM := Lib.hid (show G.length = m by rw [← hg.len, hm])
  rw [hn] at hlen ⊢
  rw [hm] at hlen2 ⊢
  by_cases h14 : 14 < n
  · clear h hn hg hm
    go_enter Try.func9, Try.ntmps9
    go_wp2_with (first
      | (go_at_call 12; (with_reducible refine (awake_any _).mono ?_); rintro e w2 ⟨rfl, hb⟩; have HB := Lib.hid hb; clear hb))
    go_ret
    exact ⟨rfl, HB.out⟩
  by_cases h12 : 12 < m
  · clear h hn hg hm
    go_enter Try.func9, Try.ntmps9
    go_wp2_with (first
      | (go_at_call 12; (with_reducible refine (awake_any _).mono ?_); rintro e w2 ⟨rfl, hb⟩; have HB := Lib.hid hb; clear hb))
    go_ret
    exact ⟨rfl, HB.out⟩
  have H64 := Lib.hid h64
  have HG64 := Lib.hid hg64
  have HK := Lib.hid hk
  have HST := Lib.hid hst
  have HI := Lib.hid (show ∀ i, i < m → ∃ x r, hs[i]? = some x ∧ G[i]? = some r from fun i hi => ⟨hs[i]'(by omega), G[i]'(by have := HGM.out; omega), by simp, by simp⟩)
  clear h hn hg hm h64 hg64 hk hst
  go_enter Try.func9, Try.ntmps9
  go_wp2_with fail
  go_loopw [9, 10] (fun x y wr => ∃ (i : Nat) (p : Option Addr) (c : Nat) (gs : List Hd), i ≤ 7 ∧ i ≤ m ∧ y = .int .i64 i ∧ x = .slice p i c ∧ Hid (RO w wr (.slice p i c) gs ((G.take i).map modI)) ∧ Hid (∀ r ∈ (G.take i).map modI, r.length ≤ 10)) (fun _ y _ => 7 - (intOf y).toNat)
  case atStart => exact ⟨0, none, 0, [], by omega, by omega, rfl, rfl, Lib.hid (by simpa using RO.start w), Lib.hid (by simp)⟩
  case round =>
    rename World => wr
    obtain ⟨i, p, c, gs, hi7, him, rfl, rfl, HR, HLN⟩ := hrel
    by_cases hgo : i < m ∧ i < 7
    · obtain ⟨him2, hi72⟩ := hgo
      obtain ⟨x, r, hx, hr⟩ := HI.out i him2
      have HW := HG.out.below HR.out.own.below (Nat.le_refl _)
      have HWR := HW.rd
      rw [HM.out] at HWR
      obtain ⟨b, off, rfl, hb, c0⟩ := HWR.hd hx
      have hrow := HW.row i x r hx hr
      obtain ⟨xa, xn, xc⟩ := x
      simp only at c0
      have HROW := Lib.hid (show Rd eI wr (.slice xa xn xc) r from hrow)
      have HXN := Lib.hid (show r.length = xn from HROW.out.caps.2.2.symm)
      have HMT := Lib.hid (map_take hr)
      have HRM := Lib.hid (List.mem_of_getElem? hr)
      have q7 : decide ((i : Int) < 7) = true := by simp; omega
      clear hx hr HW HWR hrow
      by_cases h10 : 10 < xn
      · go_wp2_with (first
          | (go_at_call 12; (with_reducible refine (awake_any _).mono ?_); rintro e w2 ⟨rfl, hb2⟩; have HB := Lib.hid (HR.out.own.below.trans (hb2.mono HR.out.own.below.size)); clear hb2))
        go_ret
        exact ⟨rfl, HB.out⟩
      · go_wp2_with fail
        go_loopw [11, 12] (fun x y wq => ∃ (j : Nat) (p2 : Option Addr) (c2 : Nat), j ≤ xn ∧ y = .int .i64 j ∧ x = .slice p2 j c2 ∧ Hid (Ow eI 3 wr wq (.slice p2 j c2) (modI (r.take j)))) (fun _ y _ => xn - (intOf y).toNat)
        case atStart => exact ⟨0, none, 0, by omega, rfl, rfl, Lib.hid (Ow.start 3 wr)⟩
        case round =>
          rename World => wq
          obtain ⟨j, p2, c2, hj, rfl, rfl, HO⟩ := hrel
          have c0' := (HO.out.below.cell (p := ⟨b, off + i, none⟩) hb).trans c0
          have hb' := Nat.lt_of_lt_of_le hb HO.out.below.size
          by_cases hjn : j < xn
          · have hjl : j < r.length := by rw [HXN.out]; exact hjn
            have HRR := HROW.out.below HO.out.below (Nat.le_refl _)
            obtain ⟨b3, off3, rfl, hb3, c3⟩ := HRR.int hjl
            have hx64 := HG64.out r HRM.out (r.getD j 0) (by rw [show r.getD j 0 = r[j] by simp [hjl]]; exact List.getElem_mem _)
            unfold In64 at hx64
            have HS := Lib.hid (mod_take hjl)
            have HL := Lib.hid (mod_len r (show j ≤ r.length by omega))
            obtain ⟨z, hz⟩ : ∃ x, r.getD j 0 = x := ⟨_, rfl⟩
            rw [hz] at c3 hx64 HS
            have W8 := fun wg => Lib.hid (within_any z 8 wg (by omega) (by omega) hx64.1 hx64.2)
            obtain ⟨y, hy⟩ : ∃ y, z % 8 = y := ⟨_, rfl⟩
            rw [hy] at W8 HS
            clear hz hy hjl HRR hx64
            go_wp2_with (first
              | (go_at_call 14; (with_reducible refine (W8 _).out.mono ?_); rintro e w2 ⟨rfl, rfl⟩)
              | (at_builtin; refine wpList_push elt31 (E := eI) (l := modI (r.take j)) (x := y) _ _ rfl rfl rfl rfl rfl HO.out (by rw [HL.out]; omega) ?_; intro p3 c3 w3 HO3 HG3; rw [HL.out] at HO3 ⊢))
            go_roundw
            case rel => exact ⟨j + 1, p3, c3, by omega, by go_num, rfl, Lib.hid (by rw [HS.out]; exact HO3.out)⟩
            case measure => simp [intOf]; omega
          · obtain rfl : j = xn := by omega
            have HF := Lib.hid (show modI (r.take j) = modI r by rw [← HXN.out, List.take_length])
            rw [HF.out] at HO
            have HML := Lib.hid (show (modI r).length = j by unfold modI; rw [List.length_map, HXN.out])
            have HRD := Lib.hid (HO.out.rd (by rw [HML.out]; omega))
            have HRO := Lib.hid (HR.out.grow HO.out.below)
            have HGL := Lib.hid (show gs.length = i by rw [HR.out.len, List.length_map, List.length_take, HGM.out]; omega)
            go_wp2_with (first
              | (at_builtin; refine wpList_push elt35 (E := eH) (l := gs) (x := ((p2, j, c2) : Hd)) _ _ rfl rfl rfl rfl rfl HRO.out.own (by rw [HGL.out]; omega) ?_; intro p3 c3 w3 HO3 HG3; rw [HGL.out] at HO3 HG3 ⊢))
            have HNEW := Lib.hid ((HRO.out.grow (below_alloc wq (.cells #[.slice p2 j c2] 31))).push (x := ((p2, j, c2) : Hd)) (r := modI r) (HRD.out.keep (below_alloc _ _)) (fun h0 kk hk e => by
              have h1 := (HO.out.row.lt kk hk).1
              have h2 := (HR.out.own.row.lt kk e).2
              omega) HO3.out HG3.out)
            go_roundw
            case rel =>
              refine ⟨i + 1, p3, c3, _, by omega, by omega, by go_num, rfl, Lib.hid (by rw [HMT.out]; exact HNEW.out), Lib.hid (fun q hq => ?_)⟩
              rw [HMT.out] at hq
              rcases List.mem_append.1 hq with hq | hq
              · exact HLN.out q hq
              · rw [List.mem_singleton.1 hq, HML.out]; omega
            case measure => simp [intOf]; omega
    · have KN := Lib.hid (near_any _ l wr (H.out.below HR.out.own.below (Nat.le_refl _)) H64.out (by rw [HN.out]; omega))
      rw [HN.out] at KN
      have HNL := Lib.hid (show (nearL l).length = n by unfold nearL; rw [List.length_map, HN.out])
      have hk := HK.out
      have hs := HST.out
      unfold In64 at hk hs
      have W2 := fun wg => Lib.hid (within_any k 4 wg (by omega) (by omega) hk.1 hk.2)
      have W3 := fun wg => Lib.hid (within_any st 4 wg (by omega) (by omega) hs.1 hs.2)
      have hs4 : 0 ≤ st % 4 ∧ st % 4 < 4 := by omega
      have hk4 : 0 ≤ k % 4 ∧ k % 4 < 4 := by omega
      obtain ⟨s', hs'⟩ : ∃ x, st % 4 = x := ⟨_, rfl⟩
      obtain ⟨k', hk'⟩ : ∃ x, k % 4 = x := ⟨_, rfl⟩
      rw [hs'] at W3 hs4
      rw [hk'] at W2 hk4
      obtain ⟨hs41, hs42⟩ := hs4
      obtain ⟨hk41, hk42⟩ := hk4
      obtain ⟨g, hgg⟩ : ∃ g, (G.take i).map modI = g := ⟨_, rfl⟩
      rw [hgg] at HR HLN
      have HGI := Lib.hid (show g.length = i by rw [← hgg, List.length_map, List.length_take, HGM.out]; omega)
      obtain ⟨L1, e1, hc1⟩ : ∃ L e, weakF (1 + k') (1 + s') (nearL l) g = (L, e) := ⟨_, _, rfl⟩
      obtain ⟨L2, e2, hc2⟩ : ∃ L e, weakF k st l G = (L, e) := ⟨_, _, rfl⟩
      have HC1 := Lib.hid hc1
      have HC2 := Lib.hid hc2
      obtain ⟨q, hq⟩ : ∃ q, validB k st = q := ⟨_, rfl⟩
      have HQ := Lib.hid hq
      have K25 := fun wg => Lib.hid (show Calls Try.prog 25 #[.int .i64 k, .int .i64 st] wg (fun e w' => e = .returned (.bool q) ∧ wg = w') from hq ▸ Valid_any k st wg)
      have HGR := Lib.hid (HR.out.rr (by rw [HGI.out]; omega))
      have HB0 := Lib.hid HR.out.own.below
      have HEM := Lib.hid (show (q = false ∨ 10 < m) → L2 = [] by
        intro h
        have h2 := hc2
        unfold weakF at h2
        rw [hq, HGM.out] at h2
        rcases h with rfl | h
        · simp at h2; exact h2.1
        · cases q with
          | false => simp at h2; exact h2.1
          | true => simp [h] at h2; exact h2.1)
      have KA := fun (wg : World) (hw : Below w.heap.size w wg) (hbad : q = false ∨ 10 < m) => Lib.hid (Weakest_as k st l wg (H.out.keep hw) (by rw [HN.out]; omega) (HG.out.below hw (Nat.le_refl _)) (fun h1 h2 => by rw [hq] at h1; rw [HGM.out] at h2; rcases hbad with h | h; rw [h] at h1; cases h1; omega) HC2.out)
      have KB := fun (wg : World) (hw : Below w.heap.size w wg) (hbad : q = false ∨ 10 < m) => Lib.hid (RWeakest_as k st l wg (H.out.keep hw) (by rw [HN.out]; omega) (HG.out.below hw (Nat.le_refl _)) (fun h1 h2 => by rw [hq] at h1; rw [HGM.out] at h2; rcases hbad with h | h; rw [h] at h1; cases h1; omega) HC2.out)
      rw [HN.out, HM.out] at KA KB
      have HLB := Lib.hid (show ∀ r ∈ g, r.length ≤ 100 from fun r hr => by have := HLN.out r hr; omega)
      clear hk hs hs' hk' hc1 hc2 hq hgg
      by_cases hgood : q = true ∧ m ≤ 10
      · obtain ⟨rfl, hm10⟩ := hgood
        go_wp2_with (first
          | (go_at_call 13; (with_reducible refine KN.out.mono ?_); rintro e w1 ⟨np, nc, rfl, ho⟩; rw [HNL.out] at ho ⊢; have HNR := Lib.hid (ho.rd (by rw [HNL.out]; omega)); have HG1 := Lib.hid (HGR.out.below ho.below (Nat.le_refl _)); have HB1 := Lib.hid (HB0.out.trans (ho.below.mono HB0.out.size)); clear ho)
          | (go_at_call 14; (with_reducible refine (W2 _).out.mono ?_); rintro e w2 ⟨rfl, rfl⟩)
          | (go_at_call 14; (with_reducible refine (W3 _).out.mono ?_); rintro e w2 ⟨rfl, rfl⟩)
          | (go_at_call 27; (with_reducible refine (Weakest_as (1 + k') (1 + s') (nearL l) _ HNR.out (by rw [HNL.out]; omega) HG1.out (fun _ _ => HLB.out) HC1.out).mono ?_); rintro e w3 ⟨ap, ac, rfl, ha, hb⟩; have HA3 := Lib.hid ha; have HN3 := Lib.hid (HNR.out.keep hb); have HG3 := Lib.hid (HG1.out.below hb (Nat.le_refl _)); have HB3 := Lib.hid (HB1.out.trans (hb.mono HB1.out.size)); clear ha hb)
          | (go_at_call 28; (with_reducible refine (RWeakest_as (1 + k') (1 + s') (nearL l) _ HN3.out (by rw [HNL.out]; omega) HG3.out (fun _ _ => HLB.out) HC1.out).mono ?_); rintro e w4 ⟨bp, bc, rfl, ha, hb⟩; have HA4 := Lib.hid (HA3.out.keep hb); have HB4' := Lib.hid ha; have HB4 := Lib.hid (HB3.out.trans (hb.mono HB3.out.size)); clear ha hb)
          | (go_at_call 17; (with_reducible refine (same_ints _ _ L1 _ HA4.out HB4'.out).mono ?_); rintro e w5 ⟨rfl, hb⟩; have HB5 := Lib.hid (HB4.out.trans (hb.mono HB4.out.size)); clear hb)
          | (go_at_call 25; (with_reducible refine (K25 _).out.mono ?_); rintro e w6 ⟨rfl, rfl⟩)
          | (go_at_call 12; (with_reducible refine (awake_any _).mono ?_); rintro e w7 ⟨rfl, hb⟩; have HB7 := Lib.hid (HB5.out.trans (hb.mono HB5.out.size)); clear hb))
        all_goals
          go_ret
          exact ⟨rfl, HB7.out⟩
      · have hbad : q = false ∨ 10 < m := by
          rcases (by cases q <;> simp : q = false ∨ q = true) with h | h
          · exact .inl h
          · exact .inr (by have h2 : ¬ m ≤ 10 := fun q2 => hgood ⟨h, q2⟩
                           omega)
        have HBAD := Lib.hid hbad
        obtain rfl : L2 = [] := HEM.out hbad
        rcases (by cases q <;> simp : q = false ∨ q = true) with rfl | rfl
        · clear hbad hgood
          go_wp2_with (first
            | (go_at_call 13; (with_reducible refine KN.out.mono ?_); rintro e w1 ⟨np, nc, rfl, ho⟩; rw [HNL.out] at ho ⊢; have HNR := Lib.hid (ho.rd (by rw [HNL.out]; omega)); have HG1 := Lib.hid (HGR.out.below ho.below (Nat.le_refl _)); have HB1 := Lib.hid (HB0.out.trans (ho.below.mono HB0.out.size)); clear ho)
            | (go_at_call 14; (with_reducible refine (W2 _).out.mono ?_); rintro e w2 ⟨rfl, rfl⟩)
            | (go_at_call 14; (with_reducible refine (W3 _).out.mono ?_); rintro e w2 ⟨rfl, rfl⟩)
            | (go_at_call 27; (with_reducible refine (Weakest_as (1 + k') (1 + s') (nearL l) _ HNR.out (by rw [HNL.out]; omega) HG1.out (fun _ _ => HLB.out) HC1.out).mono ?_); rintro e w3 ⟨ap, ac, rfl, ha, hb⟩; have HA3 := Lib.hid ha; have HN3 := Lib.hid (HNR.out.keep hb); have HG3 := Lib.hid (HG1.out.below hb (Nat.le_refl _)); have HB3 := Lib.hid (HB1.out.trans (hb.mono HB1.out.size)); clear ha hb)
            | (go_at_call 28; (with_reducible refine (RWeakest_as (1 + k') (1 + s') (nearL l) _ HN3.out (by rw [HNL.out]; omega) HG3.out (fun _ _ => HLB.out) HC1.out).mono ?_); rintro e w4 ⟨bp, bc, rfl, ha, hb⟩; have HA4 := Lib.hid (HA3.out.keep hb); have HB4' := Lib.hid ha; have HB4 := Lib.hid (HB3.out.trans (hb.mono HB3.out.size)); clear ha hb)
            | (go_at_call 17; (with_reducible refine (same_ints _ _ L1 _ HA4.out HB4'.out).mono ?_); rintro e w5 ⟨rfl, hb⟩; have HB5 := Lib.hid (HB4.out.trans (hb.mono HB4.out.size)); clear hb)
            | (go_at_call 25; (with_reducible refine (K25 _).out.mono ?_); rintro e w6 ⟨rfl, rfl⟩)
            | (go_at_call 27; (with_reducible refine (KA _ HB5.out HBAD.out).out.mono ?_); rintro e w7 ⟨cp, cc, rfl, ha, hb⟩; have HB7 := Lib.hid (HB5.out.trans (hb.mono HB5.out.size)); clear ha hb)
            | (go_at_call 28; (with_reducible refine (KB _ HB7.out HBAD.out).out.mono ?_); rintro e w8 ⟨dp, dc, rfl, ha, hb⟩; have HB8 := Lib.hid (HB7.out.trans (hb.mono HB7.out.size)); clear ha hb)
            | (go_at_call 12; (with_reducible refine (awake_any _).mono ?_); rintro e w9 ⟨rfl, hb⟩; have HB9 := Lib.hid (HB8.out.trans (hb.mono HB8.out.size)); clear hb))
          all_goals
            go_ret
            exact ⟨rfl, HB9.out⟩
        · have hm10 : ¬ m ≤ 10 := fun q2 => hgood ⟨rfl, q2⟩
          clear hbad hgood
          go_wp2_with (first
            | (go_at_call 13; (with_reducible refine KN.out.mono ?_); rintro e w1 ⟨np, nc, rfl, ho⟩; rw [HNL.out] at ho ⊢; have HNR := Lib.hid (ho.rd (by rw [HNL.out]; omega)); have HG1 := Lib.hid (HGR.out.below ho.below (Nat.le_refl _)); have HB1 := Lib.hid (HB0.out.trans (ho.below.mono HB0.out.size)); clear ho)
            | (go_at_call 14; (with_reducible refine (W2 _).out.mono ?_); rintro e w2 ⟨rfl, rfl⟩)
            | (go_at_call 14; (with_reducible refine (W3 _).out.mono ?_); rintro e w2 ⟨rfl, rfl⟩)
            | (go_at_call 27; (with_reducible refine (Weakest_as (1 + k') (1 + s') (nearL l) _ HNR.out (by rw [HNL.out]; omega) HG1.out (fun _ _ => HLB.out) HC1.out).mono ?_); rintro e w3 ⟨ap, ac, rfl, ha, hb⟩; have HA3 := Lib.hid ha; have HN3 := Lib.hid (HNR.out.keep hb); have HG3 := Lib.hid (HG1.out.below hb (Nat.le_refl _)); have HB3 := Lib.hid (HB1.out.trans (hb.mono HB1.out.size)); clear ha hb)
            | (go_at_call 28; (with_reducible refine (RWeakest_as (1 + k') (1 + s') (nearL l) _ HN3.out (by rw [HNL.out]; omega) HG3.out (fun _ _ => HLB.out) HC1.out).mono ?_); rintro e w4 ⟨bp, bc, rfl, ha, hb⟩; have HA4 := Lib.hid (HA3.out.keep hb); have HB4' := Lib.hid ha; have HB4 := Lib.hid (HB3.out.trans (hb.mono HB3.out.size)); clear ha hb)
            | (go_at_call 17; (with_reducible refine (same_ints _ _ L1 _ HA4.out HB4'.out).mono ?_); rintro e w5 ⟨rfl, hb⟩; have HB5 := Lib.hid (HB4.out.trans (hb.mono HB4.out.size)); clear hb)
            | (go_at_call 25; (with_reducible refine (K25 _).out.mono ?_); rintro e w6 ⟨rfl, rfl⟩)
            | (go_at_call 27; (with_reducible refine (KA _ HB5.out HBAD.out).out.mono ?_); rintro e w7 ⟨cp, cc, rfl, ha, hb⟩; have HB7 := Lib.hid (HB5.out.trans (hb.mono HB5.out.size)); clear ha hb)
            | (go_at_call 28; (with_reducible refine (KB _ HB7.out HBAD.out).out.mono ?_); rintro e w8 ⟨dp, dc, rfl, ha, hb⟩; have HB8 := Lib.hid (HB7.out.trans (hb.mono HB7.out.size)); clear ha hb)
            | (go_at_call 12; (with_reducible refine (awake_any _).mono ?_); rintro e w9 ⟨rfl, hb⟩; have HB9 := Lib.hid (HB8.out.trans (hb.mono HB8.out.size)); clear hb))
          all_goals
            go_ret
            exact ⟨rfl, HB9.out⟩
end Go.Proofs.Ythljjllcdocfiaa
