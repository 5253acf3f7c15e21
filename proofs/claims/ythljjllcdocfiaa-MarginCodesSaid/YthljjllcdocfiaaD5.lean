/- Walk: the reference's Weakest. -/
import Derived.Test.YthljjllcdocfiaaD4
set_option linter.unusedVariables false
set_option linter.unusedSimpArgs false
set_option linter.unnecessarySimpa false
namespace Go.Proofs.Ythljjllcdocfiaa
open Go Go.RowKit Go.MapKept

def allI (n : Nat) : List Int := (List.range n).map fun i : Nat => (i : Int)
theorem allI_len (n : Nat) : (allI n).length = n := by simp [allI]
theorem allI_succ (n : Nat) : allI (n + 1) = allI n ++ [(n : Int)] := by unfold allI; rw [List.range_succ, List.map_append]; rfl
theorem ch_all {m n : Nat} (hm : m < 2 ^ n) (hn : n ≤ 60) : chL (allI n) m = memL m := by
  rw [mem_bits hm (by omega)]
  unfold chL chK
  rw [allI_len]
  refine List.map_congr_left fun i hi => ?_
  have : i < n := by simp at hi; exact hi.1
  unfold allI
  simp [this]

set_option maxHeartbeats 8000000 in
set_option maxRecDepth 20000 in
theorem RWeakest_as {v g : Value} {hs : List Hd} {G : List (List Int)} (k st : Int) (l : List Cp) (w : World) (h : Rd eC w v l) (hl : l.length ≤ 1000) (hg : RR w g hs G) (hr : validB k st = true → G.length ≤ 10 → ∀ r ∈ G, r.length ≤ 100) {L : List Int} {e : Int} (hc : weakF k st l G = (L, e)) : Calls Try.prog 28 #[.int .i64 k, .int .i64 st, v, g] w (IsWeak w L e) := by
  obtain ⟨a, cap, rfl, hlen⟩ := h.open
  obtain ⟨a2, cap2, rfl, hlen2⟩ := hg.rd.open
  have H := Lib.hid h
  have HG := Lib.hid hg
  obtain ⟨n1, hn1⟩ : ∃ n, l.length = n := ⟨_, rfl⟩
  have HN1 := Lib.hid hn1
  obtain ⟨n, hn⟩ : ∃ n, hs.length = n := ⟨_, rfl⟩
  have HN := Lib.hid hn
  have HNG := Lib.hid (show G.length = n by rw [← hg.len, hn])
  obtain ⟨q, hq⟩ : ∃ q, validB k st = q := ⟨_, rfl⟩
  have KV := fun w => Lib.hid (show Calls Try.prog 25 #[.int .i64 k, .int .i64 st] w (fun e w' => e = .returned (.bool q) ∧ w = w') from hq ▸ Valid_any k st w)
  unfold weakF at hc
  rw [hq] at hc hr
  rw [HNG.out] at hc hr
  rw [hn1] at hlen hl ⊢
  rw [hn] at hlen2 ⊢
  cases q with
  | false =>
    simp at hc
    obtain ⟨rfl, rfl⟩ := hc
    clear h hn1 hq hg hn hr
    go_enter Try.func28, Try.ntmps28
    go_wp2_with (first
      | (go_at_call 25; (with_reducible refine (KV _).out.mono ?_); rintro e w1 ⟨rfl, rfl⟩))
    go_ret2
    exact ⟨none, 0, rfl, Rd.nil w none 0 (by omega), Below.refl _ _⟩
  | true =>
    by_cases h10 : 10 < n
    · simp [h10] at hc
      obtain ⟨rfl, rfl⟩ := hc
      clear h hn1 hq hg hn hr
      go_enter Try.func28, Try.ntmps28
      go_wp2_with (first
        | (go_at_call 25; (with_reducible refine (KV _).out.mono ?_); rintro e w1 ⟨rfl, rfl⟩))
      go_ret2
      exact ⟨none, 0, rfl, Rd.nil w none 0 (by omega), Below.refl _ _⟩
    · simp only [if_true, h10, if_false] at hc
      have HR := Lib.hid (hr rfl (by omega))
      have HC := Lib.hid hc
      obtain ⟨P, hP⟩ : ∃ P, 2 ^ n = P := ⟨_, rfl⟩
      have hP2 : P ≤ 1024 := by rw [← hP]; exact Nat.le_trans (Nat.pow_le_pow_right (by decide) (show n ≤ 10 by omega)) (by decide)
      have hsh : wrap64 ((2 : Int) ^ n) = (P : Int) := by rw [two_pow_cast, hP]; exact wrap64_small (by omega) (by omega)
      have HP := Lib.hid hP
      clear h hn1 hq hg hn hr hc hP
      go_enter Try.func28, Try.ntmps28
      go_wp2_with (first
        | (go_at_call 25; (with_reducible refine (KV _).out.mono ?_); rintro e w1 ⟨rfl, rfl⟩))
      go_loopw [10, 11] (fun x y wr => ∃ (i : Nat) (p : Option Addr) (c : Nat), i ≤ n ∧ y = .int .i64 i ∧ x = .slice p i c ∧ Hid (Ow eI 3 w wr (.slice p i c) (allI i))) (fun _ y _ => n - (intOf y).toNat)
      case atStart => exact ⟨0, none, 0, by omega, rfl, rfl, Lib.hid (Ow.start 3 w)⟩
      case round =>
        rename World => wr
        obtain ⟨i, p, c, hi, rfl, rfl, HO⟩ := hrel
        by_cases hin : i < n
        · have HAL := Lib.hid (allI_len i)
          go_wp2_with (first
            | (at_builtin; refine wpList_push elt31 (E := eI) (l := allI i) (x := (i : Int)) _ _ rfl rfl rfl rfl rfl HO.out (by have := HAL.out; omega) ?_; intro p2 c2 w2 HO2 HG2; rw [HAL.out] at HO2 ⊢))
          go_roundw
          case rel => exact ⟨i + 1, p2, c2, by omega, by go_num, rfl, Lib.hid (by rw [allI_succ]; exact HO2.out)⟩
          case measure => simp [intOf]; omega
        · obtain rfl : i = n := by omega
          have HALL := Lib.hid (HO.out.rd (by rw [allI_len]; omega))
          have HB0 := Lib.hid HO.out.below
          have HALN := Lib.hid (allI_len i)
          go_wp2_with fail
          go_loopw [12, 13, 14] (fun x f y wq => ∃ (i2 : Nat) (b : Option (List Int)), i2 ≤ P ∧ y = .int .i64 i2 ∧ f = .bool b.isSome ∧ Hid (bestK k st l G i2 = b) ∧ Hid (BestAt wq x b) ∧ Hid (Below wr.heap.size wr wq)) (fun _ _ y _ => P - (intOf y).toNat)
          case atStart => exact ⟨0, none, by omega, rfl, rfl, Lib.hid rfl, Lib.hid rfl, Lib.hid (Below.refl _ _)⟩
          case round =>
            rename World => wq
            obtain ⟨i2, b, hi2, rfl, rfl, HB, HBA, HBL⟩ := hrel
            by_cases hip : i2 < P
            · have him : i2 < 2 ^ G.length := by rw [HNG.out, HP.out]; exact hip
              have him2 : i2 < 2 ^ i := by rw [HP.out]; exact hip
              have hi62 : i2 < 4611686018427387904 := by omega
              have HML := Lib.hid (memL_le him (by rw [HNG.out]; omega))
              have HAE := Lib.hid (ch_all him2 (by omega))
              have HBW := Lib.hid (HB0.out.trans (HBL.out.mono HB0.out.size))
              have KM := Lib.hid (chosen_any _ (allI i) i2 wq (HALL.out.below HBL.out (Nat.le_refl _)) (by rw [HALN.out]; omega))
              rw [HAE.out] at KM
              have KU := fun (wg : World) (u : Value) (hw : Below w.heap.size w wg) (hu : Rd eI wg u (memL i2)) => Lib.hid (union_any (HG.out.below hw (Nat.le_refl _)) i2 hu (by rw [HNG.out]; omega) him HR.out)
              rw [HN.out] at KU
              have HST := Lib.hid (show bestK k st l G (i2 + 1) = if !survF k st l (chG G i2).flatten && better b (memL i2) then some (memL i2) else b by rw [← HB.out]; rfl)
              have HA := Lib.hid (fun (wg : World) (hw : Below w.heap.size w wg) => show Rd eC wg (.slice a n1 cap) l by have := H.out.below hw (Nat.le_refl _); rwa [HN1.out] at this)
              have HUL := Lib.hid (show (chG G i2).flatten.length ≤ 6000 by
                have h1 := cat_len (chG G i2) (fun r hr => by rcases chG_mem hr with h | h; exact HR.out r h; simp [h])
                have h2 : (chG G i2).length = (memL i2).length := by unfold chG; rw [List.length_map]
                have h3 := HML.out
                rw [HNG.out] at h3
                omega)
              obtain ⟨S, hS⟩ : ∃ S, memL i2 = S := ⟨_, rfl⟩
              obtain ⟨F, hF⟩ : ∃ F, (chG G i2).flatten = F := ⟨_, rfl⟩
              obtain ⟨s, hs1⟩ : ∃ s, survF k st l F = s := ⟨_, rfl⟩
              rw [hS] at HST HML KM
              simp only [hS, hF] at KU
              rw [hF] at HST HUL
              rw [hs1] at HST
              have HSV := Lib.hid hs1
              obtain ⟨rr, hrr⟩ : ∃ r, S.length = r := ⟨_, rfl⟩
              have HRR := Lib.hid hrr
              obtain ⟨fl, hfl⟩ : ∃ r, F.length = r := ⟨_, rfl⟩
              have HFL := Lib.hid hfl
              have hfl6 : fl ≤ 6000 := by rw [← hfl]; exact HUL.out
              have hrr60 : rr ≤ 60 := by rw [← hrr]; have := HML.out; have := HNG.out; omega
              clear hS hF hs1 hrr hfl him him2
              cases s with
              | true =>
                have HE := Lib.hid (show bestK k st l G (i2 + 1) = b by rw [HST.out]; simp)
                go_wp2_with (first
                  | (go_at_call 41; (with_reducible refine KM.out.mono ?_); rintro e w2 ⟨sp, sc, rfl, ho⟩; rw [HRR.out] at ho ⊢; have HS2 := Lib.hid (ho.rd (by rw [HRR.out]; omega)); have HB2 := Lib.hid (HBL.out.trans (ho.below.mono HBL.out.size)); have HV2 := Lib.hid (HBW.out.trans (ho.below.mono HBW.out.size)); have HA2 := Lib.hid (HBA.out.keep ho.below); clear ho)
                  | (go_at_call 47; (with_reducible refine (KU _ _ HV2.out HS2.out).out.mono ?_); rintro e w4 ⟨dp, dc, rfl, ho⟩; rw [HFL.out] at ho ⊢; have HD4 := Lib.hid (ho.rd (by rw [HFL.out]; omega)); have HB4 := Lib.hid (HB2.out.trans (ho.below.mono HB2.out.size)); have HV4 := Lib.hid (HV2.out.trans (ho.below.mono HV2.out.size)); have HA4 := Lib.hid (HA2.out.keep ho.below); clear ho)
                  | (go_at_call 21; (with_reducible refine (RSurvives_as _ _ k st l _ _ (HA.out _ HV4.out) HD4.out (by rw [HN1.out]; exact hl) HSV.out).mono ?_); rintro e w5 ⟨rfl, hb5⟩; have HB5 := Lib.hid (HB4.out.trans (hb5.mono HB4.out.size)); have HA5 := Lib.hid (HA4.out.keep hb5); clear hb5))
                go_roundw
                case rel => exact ⟨i2 + 1, b, by omega, by go_num, rfl, HE, HA5, HB5⟩
                case measure => simp [intOf]; omega
              | false =>
                cases b with
                | none =>
                  have HE := Lib.hid (show bestK k st l G (i2 + 1) = some S by rw [HST.out]; simp [better])
                  go_wp2_with (first
                    | (go_at_call 41; (with_reducible refine KM.out.mono ?_); rintro e w2 ⟨sp, sc, rfl, ho⟩; rw [HRR.out] at ho ⊢; have HS2 := Lib.hid (ho.rd (by rw [HRR.out]; omega)); have HB2 := Lib.hid (HBL.out.trans (ho.below.mono HBL.out.size)); have HV2 := Lib.hid (HBW.out.trans (ho.below.mono HBW.out.size)); clear ho)
                    | (go_at_call 47; (with_reducible refine (KU _ _ HV2.out HS2.out).out.mono ?_); rintro e w4 ⟨dp, dc, rfl, ho⟩; rw [HFL.out] at ho ⊢; have HD4 := Lib.hid (ho.rd (by rw [HFL.out]; omega)); have HB4 := Lib.hid (HB2.out.trans (ho.below.mono HB2.out.size)); have HV4 := Lib.hid (HV2.out.trans (ho.below.mono HV2.out.size)); have HS4 := Lib.hid (HS2.out.keep ho.below); clear ho)
                    | (go_at_call 21; (with_reducible refine (RSurvives_as _ _ k st l _ _ (HA.out _ HV4.out) HD4.out (by rw [HN1.out]; exact hl) HSV.out).mono ?_); rintro e w5 ⟨rfl, hb5⟩; have HB5 := Lib.hid (HB4.out.trans (hb5.mono HB4.out.size)); have HS5 := Lib.hid (HS4.out.keep hb5); clear hb5))
                  go_roundw
                  case rel => exact ⟨i2 + 1, some S, by omega, by go_num, rfl, HE, HS5, HB5⟩
                  case measure => simp [intOf]; omega
                | some x =>
                  have HXX := HBA.out
                  obtain ⟨xa, xc, rfl, -⟩ := Rd.open (show Rd eI wq _ x from HXX)
                  obtain ⟨t, ht⟩ : ∃ t, lessL S x = t := ⟨_, rfl⟩
                  have HT := Lib.hid ht
                  have HBX := Lib.hid (show Rd eI wq (.slice xa x.length xc) x from HXX)
                  clear HXX ht HBA
                  generalize x.length = xl at *
                  cases t with
                  | false =>
                    have HE := Lib.hid (show bestK k st l G (i2 + 1) = some x by rw [HST.out]; simp [better, HT.out])
                    go_wp2_with (first
                      | (go_at_call 41; (with_reducible refine KM.out.mono ?_); rintro e w2 ⟨sp, sc, rfl, ho⟩; rw [HRR.out] at ho ⊢; have HS2 := Lib.hid (ho.rd (by rw [HRR.out]; omega)); have HB2 := Lib.hid (HBL.out.trans (ho.below.mono HBL.out.size)); have HV2 := Lib.hid (HBW.out.trans (ho.below.mono HBW.out.size)); have HX2 := Lib.hid (HBX.out.keep ho.below); clear ho)
                      | (go_at_call 47; (with_reducible refine (KU _ _ HV2.out HS2.out).out.mono ?_); rintro e w4 ⟨dp, dc, rfl, ho⟩; rw [HFL.out] at ho ⊢; have HD4 := Lib.hid (ho.rd (by rw [HFL.out]; omega)); have HB4 := Lib.hid (HB2.out.trans (ho.below.mono HB2.out.size)); have HV4 := Lib.hid (HV2.out.trans (ho.below.mono HV2.out.size)); have HS4 := Lib.hid (HS2.out.keep ho.below); have HX4 := Lib.hid (HX2.out.keep ho.below); clear ho)
                      | (go_at_call 21; (with_reducible refine (RSurvives_as _ _ k st l _ _ (HA.out _ HV4.out) HD4.out (by rw [HN1.out]; exact hl) HSV.out).mono ?_); rintro e w5 ⟨rfl, hb5⟩; have HB5 := Lib.hid (HB4.out.trans (hb5.mono HB4.out.size)); have HS5 := Lib.hid (HS4.out.keep hb5); have HX5 := Lib.hid (HX4.out.keep hb5); clear hb5)
                      | (go_at_call 29; (with_reducible refine (less_as _ _ S x _ HS5.out HX5.out HT.out).mono ?_); rintro e w6 ⟨rfl, nq, rfl⟩; have HB6 := Lib.hid (below_drewN HB5.out nq); have HX6 := Lib.hid (HX5.out.keep (below_drewN (Below.refl _ _) nq))))
                    go_roundw
                    case rel => exact ⟨i2 + 1, some x, by omega, by go_num, rfl, HE, HX6, HB6⟩
                    case measure => simp [intOf]; omega
                  | true =>
                    have HE := Lib.hid (show bestK k st l G (i2 + 1) = some S by rw [HST.out]; simp [better, HT.out])
                    go_wp2_with (first
                      | (go_at_call 41; (with_reducible refine KM.out.mono ?_); rintro e w2 ⟨sp, sc, rfl, ho⟩; rw [HRR.out] at ho ⊢; have HS2 := Lib.hid (ho.rd (by rw [HRR.out]; omega)); have HB2 := Lib.hid (HBL.out.trans (ho.below.mono HBL.out.size)); have HV2 := Lib.hid (HBW.out.trans (ho.below.mono HBW.out.size)); have HX2 := Lib.hid (HBX.out.keep ho.below); clear ho)
                      | (go_at_call 47; (with_reducible refine (KU _ _ HV2.out HS2.out).out.mono ?_); rintro e w4 ⟨dp, dc, rfl, ho⟩; rw [HFL.out] at ho ⊢; have HD4 := Lib.hid (ho.rd (by rw [HFL.out]; omega)); have HB4 := Lib.hid (HB2.out.trans (ho.below.mono HB2.out.size)); have HV4 := Lib.hid (HV2.out.trans (ho.below.mono HV2.out.size)); have HS4 := Lib.hid (HS2.out.keep ho.below); have HX4 := Lib.hid (HX2.out.keep ho.below); clear ho)
                      | (go_at_call 21; (with_reducible refine (RSurvives_as _ _ k st l _ _ (HA.out _ HV4.out) HD4.out (by rw [HN1.out]; exact hl) HSV.out).mono ?_); rintro e w5 ⟨rfl, hb5⟩; have HB5 := Lib.hid (HB4.out.trans (hb5.mono HB4.out.size)); have HS5 := Lib.hid (HS4.out.keep hb5); have HX5 := Lib.hid (HX4.out.keep hb5); clear hb5)
                      | (go_at_call 29; (with_reducible refine (less_as _ _ S x _ HS5.out HX5.out HT.out).mono ?_); rintro e w6 ⟨rfl, nq, rfl⟩; have HB6 := Lib.hid (below_drewN HB5.out nq); have HS6 := Lib.hid (HS5.out.keep (below_drewN (Below.refl _ _) nq))))
                    go_roundw
                    case rel => exact ⟨i2 + 1, some S, by omega, by go_num, rfl, HE, HS6, HB6⟩
                    case measure => simp [intOf]; omega
            · obtain rfl : i2 = P := by omega
              have hc := HC.out
              rw [HP.out, HB.out] at hc
              cases b with
              | none =>
                simp at hc
                obtain ⟨rfl, rfl⟩ := hc
                go_wp2_with fail
                go_ret2
                exact ⟨none, 0, rfl, Rd.nil _ none 0 (by omega), HB0.out.trans (HBL.out.mono HB0.out.size)⟩
              | some x =>
                simp at hc
                obtain ⟨rfl, rfl⟩ := hc
                have HXX := HBA.out
                obtain ⟨xa, xc, rfl, -⟩ := Rd.open (show Rd eI wq _ x from HXX)
                have HBX := Lib.hid (show Rd eI wq (.slice xa x.length xc) x from HXX)
                clear HXX HBA
                go_wp2_with fail
                go_ret2
                exact ⟨xa, xc, rfl, HBX.out, HB0.out.trans (HBL.out.mono HB0.out.size)⟩
end Go.Proofs.Ythljjllcdocfiaa
