/- The walk of the reference's Union; errors of Loads and Union. -/
import Derived.Test.YtkjamafpohnflaaX1
set_option linter.unusedVariables false
set_option linter.unusedSimpArgs false
set_option linter.unnecessarySimpa false
namespace Go.Proofs.Ytkjamafpohnflaa
open Go Go.RowKit Go.Mem Go.Deep

theorem first_bad (P : Nat → Prop) : ∀ m, (∀ i, i < m → P i) ∨ ∃ p0, p0 < m ∧ (∀ i, i < p0 → P i) ∧ ¬ P p0
  | 0 => .inl fun i h => by omega
  | m + 1 => by
    rcases first_bad P m with h | ⟨p0, h1, h2, h3⟩
    · by_cases hm : P m
      · exact .inl fun i hi => by by_cases e : i = m; (subst e; exact hm); exact h i (by omega)
      · exact .inr ⟨m, by omega, h, hm⟩
    · exact .inr ⟨p0, by omega, h2, h3⟩

set_option maxHeartbeats 2000000 in
theorem rloads_tree (v u : Value) (T : List Int) (ps : List (Int × Int)) (w : World) (h : IntsAt w v T) (h2 : PairsAt w u ps) (ho : ¬ Tree.Ok T) : Calls Try.prog 28 #[v, u] w fun e w' => e = .returned (.tuple #[.slice none 0 0, .int .i64 112]) ∧ w = w' := by
  obtain ⟨a, cap, rfl, hlen⟩ := h.open
  obtain ⟨a2, cap2, rfl⟩ := h2.open
  have K24 := Lib.hid (check24_bad h ho)
  clear h h2 ho
  generalize T.length = n at *
  generalize ps.length = m at *
  go_enter Try.func28, Try.ntmps28
  go_wp2_with (first
    | (go_at_call 24; (with_reducible refine K24.out.mono ?_); rintro e w0 ⟨rfl, rfl⟩))
  go_ret2
  exact ⟨rfl, rfl⟩

/-- the program's Loads, where it refuses -/
theorem loads_bad (v u : Value) (T : List Int) (ps : List (Int × Int)) (c : Int) (p0 : Nat) (w : World) (h : IntsAt w v T) (h2 : PairsAt w u ps) (hm : ps.length ≤ 1000) (hp0 : p0 ≤ ps.length)
    (hok : ∀ i, i < p0 → checkF T [(ps.getD i (0, 0)).1, (ps.getD i (0, 0)).2] = 0) (hc : c ≠ 0) (hend : (p0 = ps.length ∧ codeOf T = c) ∨ (p0 < ps.length ∧ checkF T [(ps.getD p0 (0, 0)).1, (ps.getD p0 (0, 0)).2] = c)) :
    Calls Try.prog 27 #[v, u] w fun e w' => e = .returned (.tuple #[.slice none 0 0, .int .i64 c]) ∧ Below w.heap.size w w' := by
  obtain ⟨a, cap, rfl, hlen⟩ := h.open
  obtain ⟨a2, cap2, rfl⟩ := h2.open
  have HP := Lib.hid hok
  have HE := Lib.hid hend
  have hc' : (c != 0) = true := by simpa using hc
  obtain ⟨m, hm'⟩ : ∃ m, ps.length = m := ⟨_, rfl⟩
  have HM := Lib.hid hm'
  obtain ⟨n, hTL⟩ : ∃ n, T.length = n := ⟨_, rfl⟩
  rw [hm'] at hm h2 hp0 ⊢
  rw [hTL] at hlen h ⊢
  have H := Lib.hid h
  have H2 := Lib.hid h2
  clear h h2 hTL hok hend hm' hc
  go_enter Try.func27, Try.ntmps27
  go_wp2_with fail
  go_loopw [16] (fun s wr => ∃ k : Nat, k ≤ p0 ∧ s = .int .i64 k ∧ Hid (Below w.heap.size w wr)) (fun s _ => m - (intOf s).toNat)
  case atStart => exact ⟨0, by omega, rfl, Below.refl _ _⟩
  case round =>
    rename World => wr
    obtain ⟨k, hk, rfl, HB⟩ := hrel
    by_cases hkm : k < m
    · obtain ⟨x, y, hxy⟩ : ∃ x y, ps.getD k (0, 0) = (x, y) := ⟨_, _, rfl⟩
      obtain ⟨b, off, rfl, hb, c0, c1⟩ := (H2.out.below HB.out (Nat.le_refl _)).cell (i := k) (by rw [HM.out]; exact hkm) hxy
      have HB1 := Lib.hid (HB.out.alloc HB.out.size (.cells #[.int .i64 x, .int .i64 y] 47))
      have HB2 := Lib.hid (HB1.out.alloc HB1.out.size (.cells #[.int .i64 x, .int .i64 y] 3))
      have HN := Lib.hid (show IntsAt ((wr.alloc (.cells #[.int .i64 x, .int .i64 y] 47)).alloc (.cells #[.int .i64 x, .int .i64 y] 3)) (.slice (some ⟨wr.heap.size + 1, 0, none⟩) 2 2) [x, y] by have e := IntsAt.new (wr.alloc (.cells #[.int .i64 x, .int .i64 y] 47)) [x, y] (by simp) 3; rw [show (wr.alloc (.cells #[.int .i64 x, .int .i64 y] 47)).heap.size = wr.heap.size + 1 by simp] at e; exact e)
      have HT := Lib.hid (H.out.below HB2.out (Nat.le_refl _))
      by_cases hk0 : k < p0
      · have HC := Lib.hid (show checkF T [x, y] = 0 by have := HP.out k hk0; rw [hxy] at this; exact this)
        have K0 := fun w (u : Value) (h : IntsAt w (.slice a n cap) T) (h2 : IntsAt w u [x, y]) => Lib.hid (show Calls Try.prog 29 #[.slice a n cap, u] w (fun e w' => e = .returned (.int .i64 0) ∧ w = w') from HC.out ▸ chk_any _ u T [x, y] w h h2)
        clear hxy
        go_wp2_with (first
          | (go_at_call 29; (with_reducible refine (K0 _ _ HT.out HN.out).out.mono ?_); rintro e w0 ⟨rfl, rfl⟩))
        go_roundw
        case rel => exact ⟨k + 1, by omega, by go_num, HB2⟩
        case measure => simp [intOf]; omega
      · obtain rfl : k = p0 := by omega
        have HC := Lib.hid (show checkF T [x, y] = c by
          rcases HE.out with ⟨e, _⟩ | ⟨_, h⟩
          · rw [HM.out] at e; omega
          · rw [hxy] at h; exact h)
        have K0 := fun w (u : Value) (h : IntsAt w (.slice a n cap) T) (h2 : IntsAt w u [x, y]) => Lib.hid (show Calls Try.prog 29 #[.slice a n cap, u] w (fun e w' => e = .returned (.int .i64 c) ∧ w = w') from HC.out ▸ chk_any _ u T [x, y] w h h2)
        clear hxy
        go_wp2_with (first
          | (go_at_call 29; (with_reducible refine (K0 _ _ HT.out HN.out).out.mono ?_); rintro e w0 ⟨rfl, rfl⟩))
        go_ret2
        exact ⟨rfl, HB2.out⟩
    · obtain rfl : k = m := by omega
      have HC := Lib.hid (show codeOf T = c by
        rcases HE.out with ⟨_, h⟩ | ⟨h, _⟩
        · exact h
        · rw [HM.out] at h; omega)
      have K23 := fun w (h : IntsAt w (.slice a n cap) T) => Lib.hid (show Calls Try.prog 23 #[.slice a n cap] w (fun e w' => e = .returned (.int .i64 c) ∧ w = w') from HC.out ▸ check23_any _ T w h)
      have HT := Lib.hid (H.out.below HB.out (Nat.le_refl _))
      go_wp2_with (first
        | (go_at_call 23; (with_reducible refine (K23 _ HT.out).out.mono ?_); rintro e w0 ⟨rfl, rfl⟩))
      go_ret2
      exact ⟨rfl, HB.out⟩

/-- the pairs that Union makes of the first k nodes -/
def prN (ns : List Int) (t : Int) (k : Nat) : List (Int × Int) := (List.range k).map fun i => (ns.getD i 0, t)
theorem len_prN (ns : List Int) (t : Int) (k : Nat) : (prN ns t k).length = k := by simp [prN]
theorem prN_succ (ns : List Int) (t : Int) (k : Nat) : prN ns t (k + 1) = prN ns t k ++ [(ns.getD k 0, t)] := by simp [prN, List.range_succ]
theorem prN_get {ns : List Int} {t : Int} {k i : Nat} (h : i < k) : (prN ns t k).getD i (0, 0) = (ns.getD i 0, t) := by
  unfold prN; rw [List.getD_eq_getElem?_getD, List.getElem?_map, List.getElem?_range h]; rfl
theorem ld_unN (T ns : List Int) (t j m : Nat) : ∀ k, k ≤ m → decide (0 < ldTo T (prN ns t m) k j) = unS T t ns k j
  | 0, _ => by rw [unS_zero]; rfl
  | k + 1, h => by
    have ih := ld_unN T ns t j m k (by omega)
    rw [unS_succ]
    show _ = (unS T t ns k j || _)
    rw [← ih, ldTo_succ, prN_get (by omega)]
    show decide (0 < _ + if pathS T ((ns.getD k 0)).toNat ((t : Int).toNat) j = true then 1 else 0) = _
    rw [show ((t : Int).toNat) = t from rfl]
    cases pathS T (ns.getD k 0).toNat t j <;> simp
/-- the first k of the links with a load -/
def unTo (T ns : List Int) (t k : Nat) : List Int := ((List.range k).filter fun j : Nat => unS T t ns ns.length j).map fun k : Nat => (k : Int)
theorem unTo_succ (T ns : List Int) (t k : Nat) : unTo T ns t (k + 1) = if unS T t ns ns.length k then unTo T ns t k ++ [(k : Int)] else unTo T ns t k := by
  unfold unTo
  rw [List.range_succ, List.filter_append, List.map_append]
  cases h : unS T t ns ns.length k <;> simp [List.filter_cons, h]
theorem len_unTo (T ns : List Int) (t k : Nat) : (unTo T ns t k).length ≤ k := by
  unfold unTo
  rw [List.length_map]
  exact Nat.le_trans (List.length_filter_le _ _) (by simp)

set_option maxRecDepth 20000 in
set_option maxHeartbeats 8000000 in
theorem runion_any (v u : Value) (T ns : List Int) (t n p0 q : Nat) (w : World) (R : Ending → World → Prop) (h : IntsAt w v T) (h2 : IntsAt w u ns) (ho : Tree.Ok T) (hTL : T.length = n) (ht : t < n) (hps : ∀ i, i < p0 → 0 ≤ ns.getD i 0 ∧ ns.getD i 0 < n) (hm : ns.length ≤ 1000) (hq : (unionL T t ns).length = q)
    (hend : (p0 = ns.length ∧ ∀ e w', UnionIs w (unionL T t ns) q e w' → R e w') ∨ (p0 < ns.length ∧ ¬ (0 ≤ ns.getD p0 0 ∧ ns.getD p0 0 < n) ∧ ∀ w', Below w.heap.size w w' → R (.returned (.tuple #[.slice none 0 0, .int .i64 5])) w')) : Calls Try.prog 26 #[v, .int .i64 t, u] w R := by
  obtain ⟨a, cap, rfl, hlen⟩ := h.open
  obtain ⟨a2, cap2, rfl, hlen2⟩ := h2.open
  have HO := Lib.hid ho
  have HTL := Lib.hid hTL
  have HP := Lib.hid hps
  have HE := Lib.hid hend
  have HQ := Lib.hid hq
  obtain ⟨m, hm'⟩ : ∃ m, ns.length = m := ⟨_, rfl⟩
  have HM := Lib.hid hm'
  have hn64 : n ≤ 64 := by have := ho.2.1; omega
  have hp0m : p0 ≤ m := by rcases hend with ⟨e, _⟩ | ⟨e, _⟩ <;> omega
  rw [hm'] at hm h2 ⊢
  rw [hTL] at hlen h ⊢
  have H := Lib.hid h
  have H2 := Lib.hid h2
  have K24 := Lib.hid (check24_as h ho)
  have K34 := Lib.hid (node_at (x := (t : Int)) (c := true) h (by rw [hTL]; simp; omega))
  clear h h2 ho hTL hps hm' hend hq hlen2
  go_enter Try.func26, Try.ntmps26
  go_wp2_with (first
    | (go_at_call 24; (with_reducible refine K24.out.mono ?_); rintro e w0 ⟨rfl, rfl⟩)
    | (go_at_call 34; (with_reducible refine K34.out.mono ?_); rintro e w0 ⟨rfl, rfl⟩))
  go_loopw [9, 10] (fun sp s wr => ∃ (k : Nat) (p : Option Addr) (c : Nat), sp = .slice p k c ∧ s = .int .i64 k ∧ k ≤ m ∧ Hid (AS w 47 2 (.slice p k c) k (prs (prN ns t k)) [] wr)) (fun _ s _ => m - (intOf s).toNat)
  case atStart => exact ⟨0, none, 0, rfl, rfl, by omega, AS.start w 47 2⟩
  case round =>
    rename World => wr
    obtain ⟨k, p, c, rfl, rfl, hk, HV⟩ := hrel
    by_cases hkm : k < m
    · obtain ⟨b, off, rfl, hb, ck⟩ := (H2.out.below HV.out.below (Nat.le_refl _)).cell (i := k) (by rw [HM.out]; exact hkm)
      obtain ⟨z, hz⟩ : ∃ z, ns.getD k 0 = z := ⟨_, rfl⟩
      rw [hz] at ck
      have HN2 := Lib.hid (show prN ns t (k + 1) = prN ns t k ++ [(z, (t : Int))] by rw [prN_succ, hz])
      have HV3 := Lib.hid (HV.out.grow (below_alloc wr (.cells #[.int .i64 z, .int .i64 (t : Int)] 47)))
      have HS3 := Lib.hid (src_one (w := wr) (b := wr.heap.size) (t := 47) (c := #[.int .i64 z, .int .i64 (t : Int)]) rfl (by simp [Value.oneCell']))
      clear hz
      go_wp2_with (first
        | (at_builtin; refine wpList_pair _ _ rfl rfl rfl rfl HV3.out HS3.out (by omega) ?_; intro pp2 pc2 w3 HV4))
      go_roundw
      case rel => exact ⟨k + 1, pp2, pc2, by go_num, by go_num, by omega, by rw [HN2.out, prs_app]; simpa [prs] using HV4⟩
      case measure => simp [intOf]; omega
    · obtain rfl : k = m := by omega
      have HPP := Lib.hid (show PairsAt wr (.slice p k c) (prN ns t k) from pairs_of_owns (by rw [len_prN]; exact HV.out.row) (by rw [len_prN]; omega))
      have HT1 := Lib.hid (H.out.below HV.out.below (Nat.le_refl _))
      have HB1 := Lib.hid HV.out.below
      have HOK := Lib.hid (show ∀ i, i < p0 → OkP n ((prN ns t k).getD i (0, 0)) from fun i hi => by
        rw [prN_get (by omega)]
        have := HP.out i hi
        exact ⟨this.1, this.2, by show (0 : Int) ≤ t; omega, by show (t : Int) < n; omega⟩)
      by_cases hpk : p0 = k
      · subst hpk
        have HEB : Hid (∀ e w', UnionIs w (unionL T t ns) q e w' → R e w') := Lib.hid (by
          rcases HE.out with ⟨_, h⟩ | ⟨h1, _⟩
          · exact h
          · rw [HM.out] at h1; omega)
        have K28 := Lib.hid (rloads_any _ _ T (prN ns t p0) n p0 wr (LoadsIs wr (loadsL T (prN ns t p0)) n) HT1.out HPP.out HO.out HTL.out HOK.out (by rw [len_prN]; exact hm) (.inl ⟨(len_prN _ _ _).symm, fun _ _ h => h⟩))
        have HL0 := Lib.hid (show unTo T ns t n = unionL T t ns by unfold unTo unionL; rw [HTL.out])
        go_wp2_with (first
          | (go_at_call 28; (with_reducible refine K28.out.mono ?_); rintro e w5 ⟨ra, rc, rfl, hI, hb5⟩; have HI := Lib.hid hI; have HB5 := Lib.hid (HB1.out.trans (hb5.mono HB1.out.size)); clear hI hb5))
        clear K28 HV HPP HT1
        go_loopw [13, 14] (fun sp s wq => ∃ (i uu : Nat) (lp : Option Addr) (lc : Nat), sp = .slice lp uu lc ∧ s = .int .i64 i ∧ i ≤ n ∧ Hid ((unTo T ns t i).length = uu) ∧ Hid (Own w5 wq (.slice lp uu lc) (unTo T ns t i))) (fun _ s _ => n - (intOf s).toNat)
        case atStart => exact ⟨0, 0, none, 0, rfl, rfl, by omega, rfl, Own.start w5⟩
        case round =>
          rename World => wq
          obtain ⟨i, uu, lp, lc, rfl, rfl, hi, HU, HW⟩ := hrel
          by_cases hin : i < n
          · obtain ⟨b, off, rfl, hb, ck⟩ := (HI.out.below HW.out.below (Nat.le_refl _)).cell (i := i) (by rw [len_loads, HTL.out]; exact hin)
            rw [loads_get (by rw [HTL.out]; exact hin)] at ck
            have hd := ld_unN T ns t i p0 p0 (Nat.le_refl _)
            obtain ⟨ua, hua⟩ : ∃ x, ldTo T (prN ns t p0) (prN ns t p0).length i = x := ⟨_, rfl⟩
            rw [hua] at ck
            rw [len_prN] at hua
            rw [hua] at hd
            have hu64 : uu ≤ 64 := by have := len_unTo T ns t i; have := HU.out; omega
            have HN := Lib.hid (show unTo T ns t (i + 1) = if decide (0 < ua) then unTo T ns t i ++ [(i : Int)] else unTo T ns t i by rw [unTo_succ, HM.out, hd])
            clear hua hd
            by_cases h0 : 0 < ua
            · have HN2 := Lib.hid (show unTo T ns t (i + 1) = unTo T ns t i ++ [(i : Int)] by rw [HN.out]; simp [h0])
              have q5 : decide (0 < ua) = true := by simpa using h0
              have HV1 := Lib.hid (HW.out.grow (below_alloc wq (.cells #[.int .i64 (i : Int)] 3)))
              have HU2 := Lib.hid (show (unTo T ns t (i + 1)).length = uu + 1 by rw [HN2.out, List.length_append, HU.out]; rfl)
              clear HN
              go_wp2_with (first
                | (at_builtin; refine wpList_push (l := unTo T ns t i) (z := (i : Int)) _ _ rfl rfl rfl rfl HV1.out (by simp) (by simp) (by rw [HU.out]; omega) ?_; intro p2 c2 w2 HO2; rw [HU.out] at HO2; rw [HU.out]))
              go_roundw
              case rel => exact ⟨i + 1, uu + 1, p2, c2, by go_num, by go_num, by omega, HU2, by rw [HN2.out]; exact HO2⟩
              case measure => simp [intOf]; omega
            · have HN2 := Lib.hid (show unTo T ns t (i + 1) = unTo T ns t i by rw [HN.out]; simp [h0])
              have q5 : decide (0 < ua) = false := by simpa using h0
              clear HN
              go_wp2_with fail
              go_roundw
              case rel => exact ⟨i + 1, uu, lp, lc, rfl, by go_num, by omega, by rw [HN2.out]; exact HU, by rw [HN2.out]; exact HW⟩
              case measure => simp [intOf]; omega
          · obtain rfl : i = n := by omega
            have hqu : uu = q := by rw [← HU.out, HL0.out, HQ.out]
            subst hqu
            have HR := Lib.hid (show IntsAt wq (.slice lp uu lc) (unionL T t ns) by have := HW.out.at (by rw [HU.out]; have := len_unTo T ns t i; have := HU.out; omega); rw [HL0.out] at this; exact this)
            have HBE := Lib.hid (HB5.out.trans (HW.out.below.mono HB5.out.size))
            go_wp2_with fail
            exact HEB.out _ _ ⟨_, _, rfl, HR.out, HBE.out⟩
      · have HEB : Hid (¬ (0 ≤ ns.getD p0 0 ∧ ns.getD p0 0 < n) ∧ ∀ w', Below w.heap.size w w' → R (.returned (.tuple #[.slice none 0 0, .int .i64 5])) w') := Lib.hid (by
          rcases HE.out with ⟨e, _⟩ | ⟨_, h1, h2⟩
          · rw [HM.out] at e; omega
          · exact ⟨h1, h2⟩)
        have K28 := Lib.hid (rloads_any _ _ T (prN ns t k) n p0 wr (fun e w' => e = .returned (.tuple #[.slice none 0 0, .int .i64 5]) ∧ Below wr.heap.size wr w') HT1.out HPP.out HO.out HTL.out HOK.out (by rw [len_prN]; exact hm) (.inr ⟨by rw [len_prN]; omega, by
          rw [prN_get (by omega)]
          exact fun h => HEB.out.1 ⟨h.1, h.2.1⟩, fun w' hb => ⟨rfl, hb⟩⟩))
        go_wp2_with (first
          | (go_at_call 28; (with_reducible refine K28.out.mono ?_); rintro e w5 ⟨rfl, hb5⟩; have HB5 := Lib.hid (HB1.out.trans (hb5.mono HB1.out.size)); clear hb5))
        exact HEB.out.2 _ HB5.out
end Go.Proofs.Ytkjamafpohnflaa
