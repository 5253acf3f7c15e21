/- Walks: Weakest, the program's and the reference's. -/
import Derived.Test.YthljjllcdocfiaaD3
set_option linter.unusedVariables false
set_option linter.unusedSimpArgs false
set_option linter.unnecessarySimpa false
namespace Go.Proofs.Ythljjllcdocfiaa
open Go Go.RowKit Go.MapKept

def better (b : Option (List Int)) (s : List Int) : Bool := match b with
  | none => true
  | some x => lessL s x
/-- the best of the first masks -/
def bestK (k st : Int) (l : List Cp) (G : List (List Int)) : Nat → Option (List Int)
  | 0 => none
  | n + 1 => if !survF k st l (chG G n).flatten && better (bestK k st l G n) (memL n) then some (memL n) else bestK k st l G n
/-- what Weakest returns -/
def weakF (k st : Int) (l : List Cp) (G : List (List Int)) : List Int × Int := if validB k st then (if 10 < G.length then ([], 111) else match bestK k st l G (2 ^ G.length) with
  | none => ([], 14)
  | some b => (b, 0)) else ([], 5)
def IsWeak (w : World) (L : List Int) (n : Int) (e : Ending) (w' : World) : Prop := ∃ p cap, e = .returned (.tuple #[.slice p L.length cap, .int .i64 n]) ∧ Rd eI w' (.slice p L.length cap) L ∧ Below w.heap.size w w'
theorem memL_le {m n : Nat} (hm : m < 2 ^ n) (hn : n ≤ 60) : (memL m).length ≤ n := by
  rw [mem_bits hm (by omega), List.length_map]
  have := List.length_filter_le m.testBit (List.range n)
  simpa using this
/-- the best set in memory -/
def BestAt (w : World) (v : Value) (b : Option (List Int)) : Prop := match b with
  | none => v = .slice none 0 0
  | some x => Rd eI w v x
theorem BestAt.keep {w w' : World} {v : Value} {b : Option (List Int)} (h : BestAt w v b) (hb : Below w.heap.size w w') : BestAt w' v b := by
  cases b with
  | none => exact h
  | some x => exact Rd.keep h hb

set_option maxHeartbeats 8000000 in
set_option maxRecDepth 20000 in
theorem Weakest_as {v g : Value} {hs : List Hd} {G : List (List Int)} (k st : Int) (l : List Cp) (w : World) (h : Rd eC w v l) (hl : l.length ≤ 1000) (hg : RR w g hs G) (hr : validB k st = true → G.length ≤ 10 → ∀ r ∈ G, r.length ≤ 100) {L : List Int} {e : Int} (hc : weakF k st l G = (L, e)) : Calls Try.prog 27 #[.int .i64 k, .int .i64 st, v, g] w (IsWeak w L e) := by
  obtain ⟨a, cap, rfl, hlen⟩ := h.open
  obtain ⟨a2, cap2, rfl, hlen2⟩ := hg.rd.open
  have H := Lib.hid h
  have HG := Lib.hid hg
  obtain ⟨n1, hn1⟩ : ∃ n, l.length = n := ⟨_, rfl⟩
  have HN1 := Lib.hid hn1
  obtain ⟨n, hn⟩ : ∃ n, hs.length = n := ⟨_, rfl⟩
  have HN := Lib.hid hn
  have HNG := Lib.hid (show G.length = n by rw [← hg.len, hn])
  obtain ⟨q, hq⟩ : ∃ q, validB k st = q := ⟨_, rfl⟩
  have KV := fun w => Lib.hid (show Calls Try.prog 30 #[.int .i64 k, .int .i64 st] w (fun e w' => e = .returned (.bool q) ∧ w = w') from hq ▸ valid_any k st w)
  unfold weakF at hc
  rw [hq] at hc hr
  rw [HNG.out] at hc hr
  rw [hn1] at hlen hl ⊢
  rw [hn] at hlen2 ⊢
  cases q with
  | false =>
    simp at hc
    obtain ⟨rfl, rfl⟩ := hc
    clear h hn1 hq hg hn hr
    go_enter Try.func27, Try.ntmps27
    go_wp2_with (first
      | (go_at_call 30; (with_reducible refine (KV _).out.mono ?_); rintro e w1 ⟨rfl, rfl⟩))
    go_ret2
    exact ⟨none, 0, rfl, Rd.nil w none 0 (by omega), Below.refl _ _⟩
  | true =>
    by_cases h10 : 10 < n
    · simp [h10] at hc
      obtain ⟨rfl, rfl⟩ := hc
      clear h hn1 hq hg hn hr
      go_enter Try.func27, Try.ntmps27
      go_wp2_with (first
        | (go_at_call 30; (with_reducible refine (KV _).out.mono ?_); rintro e w1 ⟨rfl, rfl⟩))
      go_ret2
      exact ⟨none, 0, rfl, Rd.nil w none 0 (by omega), Below.refl _ _⟩
    · simp only [if_true, h10, if_false] at hc
      have HR := Lib.hid (hr rfl (by omega))
      have HC := Lib.hid hc
      obtain ⟨P, hP⟩ : ∃ P, 2 ^ n = P := ⟨_, rfl⟩
      have hP2 : P ≤ 1024 := by rw [← hP]; exact Nat.le_trans (Nat.pow_le_pow_right (by decide) (show n ≤ 10 by omega)) (by decide)
      have hsh : wrap64 ((2 : Int) ^ n) = (P : Int) := by rw [two_pow_cast, hP]; exact wrap64_small (by omega) (by omega)
      have HP := Lib.hid hP
      clear h hn1 hq hg hn hr hc hP
      go_enter Try.func27, Try.ntmps27
      go_wp2_with (first
        | (go_at_call 30; (with_reducible refine (KV _).out.mono ?_); rintro e w1 ⟨rfl, rfl⟩))
      rw [hsh]
      clear hsh KV
      go_loopw [10, 11, 24] (fun x f y wr => ∃ (i : Nat) (b : Option (List Int)), i ≤ P ∧ y = .int .i64 i ∧ f = .bool b.isSome ∧ Hid (bestK k st l G i = b) ∧ Hid (BestAt wr x b) ∧ Hid (Below w.heap.size w wr)) (fun _ _ y _ => P - (intOf y).toNat)
      case atStart => exact ⟨0, none, by omega, rfl, rfl, Lib.hid rfl, Lib.hid rfl, Lib.hid (Below.refl _ _)⟩
      case round =>
        rename World => wr
        obtain ⟨i, b, hi, rfl, rfl, HB, HBA, HBL⟩ := hrel
        by_cases hip : i < P
        · have him : i < 2 ^ G.length := by rw [HNG.out, HP.out]; exact hip
          have hi62 : i < 4611686018427387904 := by omega
          have HML := Lib.hid (memL_le him (by rw [HNG.out]; omega))
          have HGC := Lib.hid (show (chG G i).length = (memL i).length by unfold chG; rw [List.length_map])
          have HGR := Lib.hid (show ∀ r ∈ chG G i, r.length ≤ 100 from fun r hr => by rcases chG_mem hr with h | h; exact HR.out r h; simp [h])
          have KP := fun (wg : World) (hw : Below w.heap.size w wg) => Lib.hid (pickS_any (HG.out.below hw (Nat.le_refl _)) i (by rw [HNG.out]; omega) him)
          rw [HN.out] at KP
          have HST := Lib.hid (show bestK k st l G (i + 1) = if !survF k st l (chG G i).flatten && better b (memL i) then some (memL i) else b by rw [← HB.out]; rfl)
          have HA := Lib.hid (fun (wg : World) (hw : Below w.heap.size w wg) => show Rd eC wg (.slice a n1 cap) l by have := H.out.below hw (Nat.le_refl _); rwa [HN1.out] at this)
          obtain ⟨S, hS⟩ : ∃ S, memL i = S := ⟨_, rfl⟩
          obtain ⟨C, hC⟩ : ∃ C, chG G i = C := ⟨_, rfl⟩
          obtain ⟨s, hs1⟩ : ∃ s, survF k st l C.flatten = s := ⟨_, rfl⟩
          have KM := fun wg => Lib.hid (members_any i hi62 wg)
          rw [hS] at HST HML HGC KM
          rw [hC] at HST HGC HGR
          simp only [hC] at KP
          rw [hs1] at HST
          have HSV := Lib.hid hs1
          obtain ⟨rr, hrr⟩ : ∃ r, S.length = r := ⟨_, rfl⟩
          have HRR := Lib.hid hrr
          obtain ⟨cc, hcc⟩ : ∃ r, C.length = r := ⟨_, rfl⟩
          have HCC := Lib.hid hcc
          have hrr60 : rr ≤ 60 := by rw [← hrr]; have := HML.out; have := HNG.out; omega
          have hcc60 : cc ≤ 60 := by have := HGC.out; omega
          rw [hcc] at KP
          obtain ⟨F, hF⟩ : ∃ F, C.flatten = F := ⟨_, rfl⟩
          obtain ⟨fl, hfl⟩ : ∃ r, F.length = r := ⟨_, rfl⟩
          have hfl6 : fl ≤ 6000 := by have h1 := cat_len C HGR.out; rw [hF, hfl] at h1; omega
          have HFF := Lib.hid hF
          have HFL := Lib.hid hfl
          rw [hF] at HSV
          clear hF hfl
          clear hS hC hs1 hrr hcc him
          cases b with
          | none =>
            cases s with
            | true =>
              have HE := Lib.hid (show bestK k st l G (i + 1) = none by rw [HST.out]; simp)
              go_wp2_with (first
                | (go_at_call 31; (with_reducible refine (KM _).out.mono ?_); rintro e w2 ⟨sp, sc, rfl, ho⟩; rw [HRR.out] at ho ⊢; have HS2 := Lib.hid (ho.rd (by rw [HRR.out]; omega)); have HB2 := Lib.hid (HBL.out.trans (ho.below.mono HBL.out.size)); have HA2 := Lib.hid (HBA.out.keep ho.below); clear ho)
                | (go_at_call 46; (with_reducible refine (KP _ HB2.out).out.mono ?_); rintro e w3 ⟨gp, gc, rfl, hb3, hr3⟩; have HB3 := Lib.hid (HB2.out.trans (hb3.mono HB2.out.size)); have HA3 := Lib.hid (HA2.out.keep hb3); have HG3 := Lib.hid hr3; clear hb3 hr3)
                | (go_at_call 45; (with_reducible refine (concat_any HG3.out (by rw [HCC.out]; exact hcc60) HGR.out).mono ?_); rintro e w4 ⟨dp, dc, rfl, ho⟩; rw [HFF.out] at ho ⊢; rw [HFL.out] at ho ⊢; have HD4 := Lib.hid (ho.rd (by rw [HFL.out]; omega)); have HB4 := Lib.hid (HB3.out.trans (ho.below.mono HB3.out.size)); have HA4 := Lib.hid (HA3.out.keep ho.below); clear ho)
                | (go_at_call 20; (with_reducible refine (Survives_as _ _ k st l _ _ (HA.out _ HB4.out) HD4.out (by rw [HN1.out]; exact hl) HSV.out).mono ?_); rintro e w5 ⟨rfl, hb5⟩; have HB5 := Lib.hid (HB4.out.trans (hb5.mono HB4.out.size)); have HA5 := Lib.hid (HA4.out.keep hb5); clear hb5))
              go_roundw
              case rel => exact ⟨i + 1, none, by omega, by go_num, rfl, HE, HA5, HB5⟩
              case measure => simp [intOf]; omega
            | false =>
              have HE := Lib.hid (show bestK k st l G (i + 1) = some S by rw [HST.out]; simp [better])
              go_wp2_with (first
                | (go_at_call 31; (with_reducible refine (KM _).out.mono ?_); rintro e w2 ⟨sp, sc, rfl, ho⟩; rw [HRR.out] at ho ⊢; have HS2 := Lib.hid (ho.rd (by rw [HRR.out]; omega)); have HB2 := Lib.hid (HBL.out.trans (ho.below.mono HBL.out.size)); clear ho)
                | (go_at_call 46; (with_reducible refine (KP _ HB2.out).out.mono ?_); rintro e w3 ⟨gp, gc, rfl, hb3, hr3⟩; have HB3 := Lib.hid (HB2.out.trans (hb3.mono HB2.out.size)); have HS3 := Lib.hid (HS2.out.keep hb3); have HG3 := Lib.hid hr3; clear hb3 hr3)
                | (go_at_call 45; (with_reducible refine (concat_any HG3.out (by rw [HCC.out]; exact hcc60) HGR.out).mono ?_); rintro e w4 ⟨dp, dc, rfl, ho⟩; rw [HFF.out] at ho ⊢; rw [HFL.out] at ho ⊢; have HD4 := Lib.hid (ho.rd (by rw [HFL.out]; omega)); have HB4 := Lib.hid (HB3.out.trans (ho.below.mono HB3.out.size)); have HS4 := Lib.hid (HS3.out.keep ho.below); clear ho)
                | (go_at_call 20; (with_reducible refine (Survives_as _ _ k st l _ _ (HA.out _ HB4.out) HD4.out (by rw [HN1.out]; exact hl) HSV.out).mono ?_); rintro e w5 ⟨rfl, hb5⟩; have HB5 := Lib.hid (HB4.out.trans (hb5.mono HB4.out.size)); have HS5 := Lib.hid (HS4.out.keep hb5); clear hb5))
              go_roundw
              case rel => exact ⟨i + 1, some S, by omega, by go_num, rfl, HE, HS5, HB5⟩
              case measure => simp [intOf]; omega
          | some x =>
            have HXX := HBA.out
            obtain ⟨xa, xc, rfl, -⟩ := Rd.open (show Rd eI wr _ x from HXX)
            obtain ⟨t, ht⟩ : ∃ t, lessL S x = t := ⟨_, rfl⟩
            have HT := Lib.hid ht
            have HBX := Lib.hid (show Rd eI wr (.slice xa x.length xc) x from HXX)
            clear HXX ht HBA
            generalize x.length = xl at *
            cases t with
            | false =>
              have HE := Lib.hid (show bestK k st l G (i + 1) = some x by rw [HST.out]; simp [better, HT.out])
              go_wp2_with (first
                | (go_at_call 31; (with_reducible refine (KM _).out.mono ?_); rintro e w2 ⟨sp, sc, rfl, ho⟩; rw [HRR.out] at ho ⊢; have HS2 := Lib.hid (ho.rd (by rw [HRR.out]; omega)); have HB2 := Lib.hid (HBL.out.trans (ho.below.mono HBL.out.size)); have HX2 := Lib.hid (HBX.out.keep ho.below); clear ho)
                | (go_at_call 40; (with_reducible refine (before_as _ _ S x _ HS2.out HX2.out HT.out).mono ?_); rintro e w3 ⟨rfl, rfl⟩))
              go_roundw
              case rel => exact ⟨i + 1, some x, by omega, by go_num, rfl, HE, HX2, HB2⟩
              case measure => simp [intOf]; omega
            | true =>
              cases s with
              | true =>
                have HE := Lib.hid (show bestK k st l G (i + 1) = some x by rw [HST.out]; simp)
                go_wp2_with (first
                  | (go_at_call 31; (with_reducible refine (KM _).out.mono ?_); rintro e w2 ⟨sp, sc, rfl, ho⟩; rw [HRR.out] at ho ⊢; have HS2 := Lib.hid (ho.rd (by rw [HRR.out]; omega)); have HB2 := Lib.hid (HBL.out.trans (ho.below.mono HBL.out.size)); have HX2 := Lib.hid (HBX.out.keep ho.below); clear ho)
                  | (go_at_call 40; (with_reducible refine (before_as _ _ S x _ HS2.out HX2.out HT.out).mono ?_); rintro e w3 ⟨rfl, rfl⟩)
                  | (go_at_call 46; (with_reducible refine (KP _ HB2.out).out.mono ?_); rintro e w3 ⟨gp, gc, rfl, hb3, hr3⟩; have HB3 := Lib.hid (HB2.out.trans (hb3.mono HB2.out.size)); have HX3 := Lib.hid (HX2.out.keep hb3); have HG3 := Lib.hid hr3; clear hb3 hr3)
                  | (go_at_call 45; (with_reducible refine (concat_any HG3.out (by rw [HCC.out]; exact hcc60) HGR.out).mono ?_); rintro e w4 ⟨dp, dc, rfl, ho⟩; rw [HFF.out] at ho ⊢; rw [HFL.out] at ho ⊢; have HD4 := Lib.hid (ho.rd (by rw [HFL.out]; omega)); have HB4 := Lib.hid (HB3.out.trans (ho.below.mono HB3.out.size)); have HX4 := Lib.hid (HX3.out.keep ho.below); clear ho)
                  | (go_at_call 20; (with_reducible refine (Survives_as _ _ k st l _ _ (HA.out _ HB4.out) HD4.out (by rw [HN1.out]; exact hl) HSV.out).mono ?_); rintro e w5 ⟨rfl, hb5⟩; have HB5 := Lib.hid (HB4.out.trans (hb5.mono HB4.out.size)); have HX5 := Lib.hid (HX4.out.keep hb5); clear hb5))
                go_roundw
                case rel => exact ⟨i + 1, some x, by omega, by go_num, rfl, HE, HX5, HB5⟩
                case measure => simp [intOf]; omega
              | false =>
                have HE := Lib.hid (show bestK k st l G (i + 1) = some S by rw [HST.out]; simp [better, HT.out])
                go_wp2_with (first
                  | (go_at_call 31; (with_reducible refine (KM _).out.mono ?_); rintro e w2 ⟨sp, sc, rfl, ho⟩; rw [HRR.out] at ho ⊢; have HS2 := Lib.hid (ho.rd (by rw [HRR.out]; omega)); have HB2 := Lib.hid (HBL.out.trans (ho.below.mono HBL.out.size)); have HX2 := Lib.hid (HBX.out.keep ho.below); clear ho)
                  | (go_at_call 40; (with_reducible refine (before_as _ _ S x _ HS2.out HX2.out HT.out).mono ?_); rintro e w3 ⟨rfl, rfl⟩)
                  | (go_at_call 46; (with_reducible refine (KP _ HB2.out).out.mono ?_); rintro e w3 ⟨gp, gc, rfl, hb3, hr3⟩; have HB3 := Lib.hid (HB2.out.trans (hb3.mono HB2.out.size)); have HS3 := Lib.hid (HS2.out.keep hb3); have HG3 := Lib.hid hr3; clear hb3 hr3)
                  | (go_at_call 45; (with_reducible refine (concat_any HG3.out (by rw [HCC.out]; exact hcc60) HGR.out).mono ?_); rintro e w4 ⟨dp, dc, rfl, ho⟩; rw [HFF.out] at ho ⊢; rw [HFL.out] at ho ⊢; have HD4 := Lib.hid (ho.rd (by rw [HFL.out]; omega)); have HB4 := Lib.hid (HB3.out.trans (ho.below.mono HB3.out.size)); have HS4 := Lib.hid (HS3.out.keep ho.below); clear ho)
                  | (go_at_call 20; (with_reducible refine (Survives_as _ _ k st l _ _ (HA.out _ HB4.out) HD4.out (by rw [HN1.out]; exact hl) HSV.out).mono ?_); rintro e w5 ⟨rfl, hb5⟩; have HB5 := Lib.hid (HB4.out.trans (hb5.mono HB4.out.size)); have HS5 := Lib.hid (HS4.out.keep hb5); clear hb5))
                go_roundw
                case rel => exact ⟨i + 1, some S, by omega, by go_num, rfl, HE, HS5, HB5⟩
                case measure => simp [intOf]; omega
        · obtain rfl : i = P := by omega
          have hc := HC.out
          rw [HP.out, HB.out] at hc
          cases b with
          | none =>
            simp at hc
            obtain ⟨rfl, rfl⟩ := hc
            go_wp2_with fail
            go_ret2
            exact ⟨none, 0, rfl, Rd.nil _ none 0 (by omega), HBL.out⟩
          | some x =>
            simp at hc
            obtain ⟨rfl, rfl⟩ := hc
            have HXX := HBA.out
            obtain ⟨xa, xc, rfl, -⟩ := Rd.open (show Rd eI wr _ x from HXX)
            have HBX := Lib.hid (show Rd eI wr (.slice xa x.length xc) x from HXX)
            clear HXX HBA
            go_wp2_with fail
            go_ret2
            exact ⟨xa, xc, rfl, HBX.out, HBL.out⟩
end Go.Proofs.Ythljjllcdocfiaa
