/- The walks of the reference's naturals: Trim, large, Cmp, Make. -/
import Derived.Test.YtgnmolleaengaaaGreatNf
import Derived.Laws.Bits64b
import Derived.Deep.LoopGhost
set_option linter.unusedVariables false
set_option linter.unusedSimpArgs false
set_option linter.unnecessarySimpa false
namespace Go.Proofs.YtgnmolleaengaaaGreat
open Go Go.RowKit

theorem rtrim_any {w : World} {v : Value} {l : List Nat} (h : Rd eU w v l) (hl : clen l ≤ 5000) : Calls Tryz.prog 51 #[v] w (SlPost w (trim l)) := by
  obtain ⟨a, cap, rfl, hlen⟩ := h.open
  obtain ⟨n, hn⟩ : ∃ n, n = l.length := ⟨_, rfl⟩
  obtain ⟨c, hc⟩ : ∃ c, clen l = c := ⟨_, rfl⟩
  have hcl := clen_le l
  rw [hc] at hl hcl
  rw [← hn] at h hlen hcl ⊢
  obtain ⟨k1, k2, -⟩ := h.caps
  have HR := Lib.hid h
  have HN := Lib.hid hn
  have HC := Lib.hid hc
  have HS := Lib.hid (h.cut hc cap (by omega) k2)
  have hc2 : c ≤ cap := by omega
  have q1 : (c : Int) ≤ (cap : Int) := by omega
  have HZ := Lib.hid (show ([] : List Nat).length + (trim l).length ≤ 10000 by rw [trim_len, hc]; simp; omega)
  have HE := Lib.hid (show (trim l).length = c by rw [trim_len, hc])
  clear h hn hc k1
  go_enter Tryz.func51, Tryz.ntmps51
  go_wp2_with fail
  go_loop [3] (fun i => ∃ k : Nat, k ≤ n ∧ i = .int .i64 k ∧ Hid (∀ j x, k ≤ j → l[j]? = some x → x = 0)) (fun i => (intOf i).toNat)
  case atStart => exact ⟨n, Nat.le_refl _, rfl, fun j x hj hx => by have := (List.getElem?_eq_some_iff.1 hx).1; have := HN.out; omega⟩
  case round =>
    obtain ⟨k, hk, rfl, HP⟩ := hrel
    have DONE : ∀ k', k' ≤ n → (∀ j x, k' ≤ j → l[j]? = some x → x = 0) → (k' = 0 ∨ ∃ x, l[k' - 1]? = some x ∧ x ≠ 0) → k' = c := fun k' h1 h2 h3 => by rw [← HC.out, clen_eq l k' (by have := HN.out; omega) h2 h3]
    have DONE := Lib.hid DONE
    cases k with
    | zero =>
      obtain rfl : 0 = c := DONE.out 0 (Nat.zero_le _) HP.out (.inl rfl)
      go_wp2_with (at_builtin; refine wpList_more elt29 _ _ rfl rfl rfl rfl (Ow.start 94 _) HS.out HZ.out ?_; intro p cp w2 HO HG)
      go_ret
      have hO := HO.out
      simp only [List.nil_append, List.length_nil, Nat.zero_add] at hO
      exact ⟨_, _, by simp only [List.length_nil, Nat.zero_add]; rfl, Ru.of_ow hO (by rw [HE.out]; omega), hO.below⟩
    | succ k =>
      obtain ⟨x, hx⟩ : ∃ x, l[k]? = some x := ⟨l[k]'(by have := HN.out; omega), by simp⟩
      obtain ⟨b, off, rfl, hb, hcell⟩ := HR.out.limb hx
      have HX := Lib.hid hx
      clear hx
      by_cases h0 : x = 0
      · have q : ((x : Int) == 0) = true := by simp [h0]
        go_wp2_with fail
        go_round
        case rel =>
          refine ⟨k, by omega, by go_num, fun j y hj hy => ?_⟩
          by_cases e : k + 1 ≤ j
          · exact HP.out j y e hy
          · obtain rfl : j = k := by omega
            have := HX.out
            rw [hy] at this
            cases this
            exact h0
        case measure => simp [intOf]
      · have q : ((x : Int) == 0) = false := by simpa using h0
        obtain rfl : k + 1 = c := DONE.out (k + 1) hk HP.out (.inr ⟨x, by simpa using HX.out, h0⟩)
        go_wp2_with (at_builtin; refine wpList_more elt29 _ _ rfl rfl rfl rfl (Ow.start 94 _) HS.out HZ.out ?_; intro p cp w2 HO HG)
        go_ret
        have hO := HO.out
        simp only [List.nil_append, List.length_nil, Nat.zero_add] at hO
        exact ⟨_, _, by simp only [List.length_nil, Nat.zero_add]; rfl, Ru.of_ow hO (by rw [HE.out]; omega), hO.below⟩

theorem rlarge_as {w : World} {v : Value} {l : List Nat} (h : Rd eU w v l) (hl : clen l ≤ 512) : Calls Tryz.prog 95 #[v] w fun e w' => e = .returned (.bool false) ∧ Below w.heap.size w w' := by
  have HR := Lib.hid h
  have HK := Lib.hid (show clen l ≤ 5000 by omega)
  obtain ⟨c, hc⟩ : ∃ c, (trim l).length = c := ⟨_, rfl⟩
  have HC := Lib.hid hc
  rw [trim_len] at hc
  have q : decide ((512 : Int) < (c : Int)) = false := by simp; omega
  clear h hc
  go_enter Tryz.func95, Tryz.ntmps95
  go_wp2_with (go_at_call 51; (with_reducible refine (rtrim_any HR.out HK.out).mono ?_); rintro e w1 ⟨p, cp, rfl, ht, hb⟩; rw [HC.out]; have HB := Lib.hid hb; clear ht hb)
  go_ret
  exact ⟨rfl, HB.out⟩

/-- x < 2^32 as a number -/
theorem rmake_as {w : World} {v : Nat} (hv : v < 4294967296) : Calls Tryz.prog 48 #[.int .u64 v] w (SlPost w (limb v)) := by
  have HR := Lib.hid (two_limbs w v 0)
  have HK := Lib.hid (show clen [v, 0] ≤ 5000 by simp [clen]; split <;> omega)
  have h1 : (v : Int) / 4294967296 = 0 := by omega
  have h2 : (v : Int) % 4294967296 = v := by omega
  have HT := Lib.hid (show trim [v, 0] = limb v by unfold trim limb; by_cases h : v = 0 <;> simp [clen, h])
  have HH : Hid (Rd eU (w.alloc (.cells #[.int .u32 (v : Int), .int .u32 0] 94)) (.slice (some ⟨w.heap.size, 0, none⟩) 2 2) [v, 0]) := HR
  clear HR
  go_enter Tryz.func48, Tryz.ntmps48
  go_wp2_with (go_at_call 51; (with_reducible refine (rtrim_any HH.out HK.out).mono ?_); rintro e w1 ⟨p, cp, rfl, ht, hb⟩; rw [HT.out] at ht ⊢; have HU := Lib.hid ht; have HB := Lib.hid hb; clear ht hb)
  go_ret
  exact ⟨_, _, rfl, HU.out, (below_alloc _ _).trans (HB.out.mono (by simp))⟩
end Go.Proofs.YtgnmolleaengaaaGreat

/- The walks of the reference's naturals: Cmp; divide at one limb. -/
namespace Go.Proofs.YtgnmolleaengaaaGreat
open Go Go.RowKit

set_option maxHeartbeats 1000000 in
theorem rcmp_any {w : World} {v u : Value} {l m : List Nat} (h : Rd eU w v l) (h2 : Rd eU w u m) (hl : clen l ≤ 5000) (hm : clen m ≤ 5000) {r : Int} (hr : cmpN l m = r) : Calls Tryz.prog 73 #[v, u] w fun e w' => e = .returned (.int .i64 r) ∧ Below w.heap.size w w' := by
  have HR := Lib.hid h
  have HR2 := Lib.hid h2
  have HL := Lib.hid hl
  have HM := Lib.hid hm
  obtain ⟨a, cap, rfl, hlen⟩ := h.open
  obtain ⟨a2, cap2, rfl, hlen2⟩ := h2.open
  obtain ⟨c, hc⟩ : ∃ c, (trim l).length = c := ⟨_, rfl⟩
  obtain ⟨d, hd⟩ : ∃ c, (trim m).length = c := ⟨_, rfl⟩
  have HC := Lib.hid hc
  have HD := Lib.hid hd
  rw [trim_len] at hc hd
  have HRR := Lib.hid (show (if c < d then -1 else if d < c then 1 else cmpAt (trim l) (trim m) c) = r by
    rw [← hr, ← cmpN_trim]
    unfold cmpN
    rw [clen_trim, clen_trim, hc, hd])
  rw [hc] at hl
  rw [hd] at hm
  clear h h2 hc hd hr
  by_cases h1 : c < d
  · have q : decide ((c : Int) < (d : Int)) = true := by simp; omega
    have q2 : ((c : Int) != (d : Int)) = true := by simp; omega
    go_enter Tryz.func73, Tryz.ntmps73
    go_wp2_with (first
      | (go_at_call 51; (with_reducible refine (rtrim_any HR.out HL.out).mono ?_); rintro e w1 ⟨p1, s1, rfl, ht, hb⟩; rw [HC.out] at ht ⊢; have HB := Lib.hid hb; have HQ := Lib.hid (HR2.out.keep hb); clear ht hb)
      | (go_at_call 51; (with_reducible refine (rtrim_any HQ.out HM.out).mono ?_); rintro e w2 ⟨p2, s2, rfl, ht, hb⟩; rw [HD.out] at ht ⊢; have HB2 := Lib.hid (HB.out.trans (hb.mono HB.out.size)); clear ht hb))
    go_ret
    exact ⟨by rw [← HRR.out, if_pos h1]; rfl, HB2.out⟩
  have q1 : decide ((c : Int) < (d : Int)) = false := by simp; omega
  by_cases h3 : d < c
  · have q2 : ((c : Int) != (d : Int)) = true := by simp; omega
    go_enter Tryz.func73, Tryz.ntmps73
    go_wp2_with (first
      | (go_at_call 51; (with_reducible refine (rtrim_any HR.out HL.out).mono ?_); rintro e w1 ⟨p1, s1, rfl, ht, hb⟩; rw [HC.out] at ht ⊢; have HB := Lib.hid hb; have HQ := Lib.hid (HR2.out.keep hb); clear ht hb)
      | (go_at_call 51; (with_reducible refine (rtrim_any HQ.out HM.out).mono ?_); rintro e w2 ⟨p2, s2, rfl, ht, hb⟩; rw [HD.out] at ht ⊢; have HB2 := Lib.hid (HB.out.trans (hb.mono HB.out.size)); clear ht hb))
    go_ret
    exact ⟨by rw [← HRR.out, if_neg h1, if_pos h3]; rfl, HB2.out⟩
  obtain rfl : c = d := by omega
  have HQ0 := Lib.hid (show cmpAt (trim l) (trim m) c = r by have := HRR.out; rw [if_neg h1, if_neg h3] at this; exact this)
  clear HRR h1 h3 q1
  have q2 : ((c : Int) != (c : Int)) = false := by simp
  go_enter Tryz.func73, Tryz.ntmps73
  go_wp2_with (first
    | (go_at_call 51; (with_reducible refine (rtrim_any HR.out HL.out).mono ?_); rintro e w1 ⟨p1, s1, rfl, ht, hb⟩; rw [HC.out] at ht ⊢; have HT := Lib.hid ht.rd; have HB := Lib.hid hb; have HQ := Lib.hid (HR2.out.keep hb); clear ht hb)
    | (go_at_call 51; (with_reducible refine (rtrim_any HQ.out HM.out).mono ?_); rintro e w2 ⟨p2, s2, rfl, ht, hb⟩; rw [HD.out] at ht ⊢; have HT1 := Lib.hid (HT.out.keep hb); have HT2 := Lib.hid ht.rd; have HB2 := Lib.hid (HB.out.trans (hb.mono HB.out.size)); clear ht hb))
  clear HT
  go_loopw [5] (fun s wr => ∃ (k q : Nat), k ≤ c ∧ s = .int .i64 ((k : Int) - 1) ∧ wr = w2.drewN q ∧ Hid (cmpAt (trim l) (trim m) k = r)) (fun s _ => (intOf s + 1).toNat)
  case atStart => exact ⟨c, 0, Nat.le_refl _, rfl, rfl, HQ0⟩
  case round =>
    obtain ⟨k, q, hk, rfl, rfl, HK⟩ := hrel
    cases k with
    | zero =>
      go_wp2_with fail
      go_ret
      exact ⟨by rw [← HK.out]; rfl, below_drewN HB2.out _⟩
    | succ k =>
      obtain ⟨x, hx⟩ : ∃ x, (trim l)[k]? = some x := ⟨(trim l)[k]'(by have := HC.out; omega), by simp⟩
      obtain ⟨y, hy⟩ : ∃ x, (trim m)[k]? = some x := ⟨(trim m)[k]'(by have := HD.out; omega), by simp⟩
      obtain ⟨b, off, rfl, hb, hcell⟩ := HT1.out.limb hx
      obtain ⟨b2, off2, rfl, hb2, hcell2⟩ := HT2.out.limb hy
      have HK2 := Lib.hid (show (if x < y then -1 else if y < x then 1 else cmpAt (trim l) (trim m) k) = r by have := HK.out; rw [cmpAt] at this; simpa [List.getD_eq_getElem?_getD, hx, hy] using this)
      have hkk : ((k + 1 : Nat) : Int) - 1 = (k : Int) := by omega
      rw [hkk]
      have h0 : decide ((0 : Int) ≤ (k : Int)) = true := by simp
      clear hx hy hkk HK
      by_cases e1 : x < y
      · have t1 : decide ((x : Int) < (y : Int)) = true := by simp; omega
        go_wp2_with fail
        go_quiet (fail)
        go_wp2_with fail
        go_ret
        exact ⟨by rw [← HK2.out, if_pos e1]; rfl, below_drewN (below_drewN HB2.out _) _⟩
      have t1 : decide ((x : Int) < (y : Int)) = false := by simp; omega
      by_cases e2 : y < x
      · have t2 : decide ((y : Int) < (x : Int)) = true := by simp; omega
        go_wp2_with fail
        go_quiet (fail)
        go_wp2_with fail
        go_quiet (fail)
        go_wp2_with fail
        go_ret
        exact ⟨by rw [← HK2.out, if_neg e1, if_pos e2]; rfl, below_drewN (below_drewN (below_drewN HB2.out _) _) _⟩
      · have t2 : decide ((y : Int) < (x : Int)) = false := by simp; omega
        go_wp2_with fail
        go_quiet (fail)
        go_wp2_with fail
        go_quiet (fail)
        go_wp2_with fail
        go_roundw
        case rel => exact ⟨k, _, by omega, by go_num, rfl, Lib.hid (by rw [← HK2.out, if_neg e1, if_neg e2])⟩
        case measure => simp [intOf]

/-- two numbers -/
def TwoPost (w : World) (l m : List Nat) (e : Ending) (w' : World) : Prop := ∃ a c a2 c2, e = .returned (.tuple #[.slice a l.length c, .slice a2 m.length c2]) ∧ Ru w' (.slice a l.length c) l ∧ Ru w' (.slice a2 m.length c2) m ∧ Below w.heap.size w w'
theorem ru_nil (w : World) : Ru w (.slice none 0 0) [] := ⟨Rd.nil w none 0 (by omega), fun k hk => by cases hk⟩

set_option maxRecDepth 20000 in
set_option maxHeartbeats 2000000 in
theorem rdivide_as {w : World} {v u : Value} {x y : Nat} (h : Rd eU w v (limb x)) (h2 : Rd eU w u (limb y)) (hx : x < 4294967296) (hy : y < 4294967296) (hy0 : 0 < y) :
    Calls Tryz.prog 96 #[v, u] w (TwoPost w (limb (x / y)) (limb (x % y))) := by
  have HR := Lib.hid h
  have HR2 := Lib.hid h2
  have HL := Lib.hid (show clen (limb x) ≤ 5000 by rw [clen_limb]; split <;> omega)
  have HM := Lib.hid (show clen (limb y) ≤ 5000 by rw [clen_limb]; split <;> omega)
  have HTX := Lib.hid (trim_limb x)
  have hcm := cmpN_limb x y
  obtain ⟨r, hr⟩ : ∃ r, cmpN (limb x) (limb y) = r := ⟨_, rfl⟩
  have HC := Lib.hid hr
  rw [hr] at hcm
  by_cases hlt : x < y
  · rw [if_pos hlt] at hcm
    subst hcm
    have e1 : x / y = 0 := Nat.div_eq_of_lt hlt
    have e2 : x % y = x := Nat.mod_eq_of_lt hlt
    rw [e1, e2]
    obtain ⟨a, cap, rfl, hlen⟩ := h.open
    obtain ⟨a2, cap2, rfl, hlen2⟩ := h2.open
    obtain ⟨X, hX⟩ : ∃ L, limb x = L := ⟨_, rfl⟩
    obtain ⟨Y, hY⟩ : ∃ L, limb y = L := ⟨_, rfl⟩
    rw [hX] at HR HL HC HTX hlen ⊢
    rw [hY] at HR2 HM HC hlen2 ⊢
    clear h h2 hX hY hr e1 e2
    go_enter Tryz.func96, Tryz.ntmps96
    go_wp2_with (first
      | (go_at_call 73; (with_reducible refine (rcmp_any HR.out HR2.out HL.out HM.out HC.out).mono ?_); rintro e w1 ⟨rfl, hb⟩; have HB := Lib.hid hb; have HQ := Lib.hid (HR.out.keep hb); clear hb)
      | (go_at_call 51; (with_reducible refine (rtrim_any HQ.out HL.out).mono ?_); rintro e w2 ⟨p1, s1, rfl, ht, hb⟩; rw [HTX.out] at ht ⊢; have HT := Lib.hid ht; have HB2 := Lib.hid (HB.out.trans (hb.mono HB.out.size)); clear ht hb))
    go_ret2
    exact ⟨none, 0, _, _, rfl, ru_nil _, HT.out, HB2.out⟩
  · have hnn : decide (r < 0) = false := by rw [hcm, if_neg hlt]; split <;> rfl
    have ex : limb x = [x] := by unfold limb; rw [if_neg (by omega)]
    have ey : limb y = [y] := by unfold limb; rw [if_neg (by omega)]
    rw [ex] at h HR HL HC
    rw [ey] at h2 HR2 HM HC
    obtain ⟨a, cap, rfl, hlen⟩ := h.open
    obtain ⟨a2, cap2, rfl, hlen2⟩ := h2.open
    rw [List.length_singleton] at h h2 HR HR2 ⊢
    obtain ⟨b, off, rfl, hbl, hc0⟩ := h.limb (i := 0) (x := x) rfl
    obtain ⟨b2, off2, rfl, hbl2, hc2⟩ := h2.limb (i := 0) (x := y) rfl
    rw [Nat.add_zero] at hc0 hc2
    obtain ⟨Q, hQ⟩ : ∃ Q, x / y = Q := ⟨_, rfl⟩
    obtain ⟨R, hR⟩ : ∃ R, x % y = R := ⟨_, rfl⟩
    have hQb : Q < 4294967296 := by rw [← hQ]; exact Nat.lt_of_le_of_lt (Nat.div_le_self x y) hx
    have hRb : R < 4294967296 := by rw [← hR]; exact Nat.lt_trans (Nat.mod_lt x hy0) hy
    have hqi : (x : Int) / (y : Int) = (Q : Int) := by rw [← hQ]; simp
    have hri : (x : Int) % (y : Int) = (R : Int) := by rw [← hR]; simp
    have hqt : (x : Int).tdiv (y : Int) = (Q : Int) := by rw [Int.tdiv_eq_ediv_of_nonneg (by omega)]; exact hqi
    have hrt : (x : Int).tmod (y : Int) = (R : Int) := by rw [Int.tmod_eq_emod_of_nonneg (by omega)]; exact hri
    have hy1 : ((y : Int) == 0) = false := by simp; omega
    rw [hQ, hR]
    have HQD := Lib.hid (show trim [Q] = limb Q by unfold trim limb; by_cases h : Q = 0 <;> simp [clen, h])
    have HQL := Lib.hid (show clen [Q] ≤ 5000 by simp [clen]; split <;> omega)
    have H1 := Lib.hid (show (1 : Nat) ≤ 2000 by omega)
    have C0 := Lib.hid hc0
    have C2 := Lib.hid hc2
    clear h h2 hcm hr hQ hR ex ey
    go_enter Tryz.func96, Tryz.ntmps96
    go_wp2_with (first
      | (go_at_call 73; (with_reducible refine (rcmp_any HR.out HR2.out HL.out HM.out HC.out).mono ?_); rintro e w1 ⟨rfl, hb⟩; have HB := Lib.hid hb; have e0 := (hb.cell (p := ⟨b, off, none⟩) hbl).trans C0.out; have e2 := (hb.cell (p := ⟨b2, off2, none⟩) hbl2).trans C2.out; clear hb)
      | (refine wp_make29 (n := 1) _ _ rfl rfl rfl rfl H1.out ?_; intro w2 HO))
    have hbg : b2 < w1.heap.size := Nat.lt_of_lt_of_le hbl2 HB.out.size
    obtain ⟨g, hg⟩ : ∃ g, w1.heap.size = g := ⟨_, rfl⟩
    rw [hg] at HO hbg ⊢
    clear hg
    have f0 := (HO.out.below.cell (p := ⟨b, off, none⟩) (Nat.lt_of_lt_of_le hbl HB.out.size)).trans e0
    have f2 := (HO.out.below.cell (p := ⟨b2, off2, none⟩) (Nat.lt_of_lt_of_le hbl2 HB.out.size)).trans e2
    obtain ⟨z0, zf⟩ := HO.out.at (i := 0) (by simp)
    have hbo : bits .or .u64 0 (x : Int) = (x : Int) := by
      have := bits_or_u64_nat 0 x (by omega) (by omega)
      simpa using this
    have hne : ¬ g = b2 := by omega
    have hQm : (Q : Int) % 4294967296 = (Q : Int) := by omega
    have HO2 := Lib.hid (HO.out.put 0 Q)
    change Hid (Mo w1 g [Q] _) at HO2
    have HRD := HO2.out.rd (by simp)
    rw [List.length_singleton] at HRD
    have HRD := Lib.hid HRD
    have HRB := Lib.hid hRb
    clear e0 e2 HO hqi hri
    refine wp_loop_rounds 2 ?_
    rw [rounds_succ]
    go_wp2_with fail
    rw [rounds_succ]
    go_wp2_with (first
      | (go_at_call 51; (with_reducible refine (rtrim_any HRD.out HQL.out).mono ?_); rintro e w5 ⟨p1, s1, rfl, ht, hb⟩; rw [HQD.out] at ht ⊢; have HT := Lib.hid ht; have HB5 := Lib.hid (HB.out.trans ((HO2.out.below.trans (hb.mono HO2.out.below.size)).mono HB.out.size)); clear ht hb)
      | (go_at_call 48; (with_reducible refine (rmake_as HRB.out).mono ?_); rintro e w6 ⟨p2, s2, rfl, ht, hb⟩; have HT2 := Lib.hid ht; have HT1 := Lib.hid (HT.out.keep hb); have HB6 := Lib.hid (HB5.out.trans (hb.mono HB5.out.size)); clear ht hb))
    go_ret2
    exact ⟨_, _, _, _, rfl, HT1.out, HT2.out, HB6.out⟩
end Go.Proofs.YtgnmolleaengaaaGreat

/- The walks of the reference's Gcd, Div, lowest and Make. -/
namespace Go.Proofs.YtgnmolleaengaaaGreat
open Go Go.RowKit

theorem climb (x : Nat) : clen (limb x) ≤ 512 := by rw [clen_limb]; split <;> omega
theorem climb' (x : Nat) : clen (limb x) ≤ 5000 := by have := climb x; omega
theorem limb_len0 (x : Nat) : ((limb x).length : Int) = if x = 0 then 0 else 1 := by rw [limb_len]; split <;> rfl

set_option maxRecDepth 20000 in
set_option maxHeartbeats 1000000 in
theorem rgcd_as {w : World} {v u : Value} {x y : Nat} (h : Rd eU w v (limb x)) (h2 : Rd eU w u (limb y)) (hx : x < 4294967296) (hy : y < 4294967296) :
    Calls Tryz.prog 70 #[v, u] w fun e w' => ∃ a c, e = .returned (.tuple #[.slice a (limb (Nat.gcd x y)).length c, .int .i64 0]) ∧ Ru w' (.slice a (limb (Nat.gcd x y)).length c) (limb (Nat.gcd x y)) ∧ Below w.heap.size w w' := by
  have HR := Lib.hid h
  have HR2 := Lib.hid h2
  have HL := Lib.hid (climb x)
  have HM := Lib.hid (climb y)
  have HL' := Lib.hid (climb' x)
  have HM' := Lib.hid (climb' y)
  have HTX := Lib.hid (trim_limb x)
  have HTY := Lib.hid (trim_limb y)
  obtain ⟨a, cap, rfl, hlen⟩ := h.open
  obtain ⟨a2, cap2, rfl, hlen2⟩ := h2.open
  obtain ⟨G, hG⟩ : ∃ g, Nat.gcd x y = g := ⟨_, rfl⟩
  rw [hG]
  have HG := Lib.hid hG
  obtain ⟨X, hX⟩ : ∃ L, limb x = L := ⟨_, rfl⟩
  obtain ⟨Y, hY⟩ : ∃ L, limb y = L := ⟨_, rfl⟩
  rw [hX] at HR HL HL' HTX hlen ⊢
  rw [hY] at HR2 HM HM' HTY hlen2 ⊢
  have HX := Lib.hid hX
  have HY := Lib.hid hY
  clear h h2 hX hY hG
  go_enter Tryz.func70, Tryz.ntmps70
  go_wp2_with (first
    | (go_at_call 95; (with_reducible refine (rlarge_as HR.out HL.out).mono ?_); rintro e w1 ⟨rfl, hb⟩; have HB := Lib.hid hb; have HQ2 := Lib.hid (HR2.out.keep hb); have HQ1 := Lib.hid (HR.out.keep hb); clear hb)
    | (go_at_call 95; (with_reducible refine (rlarge_as HQ2.out HM.out).mono ?_); rintro e w2 ⟨rfl, hb⟩; have HB2 := Lib.hid (HB.out.trans (hb.mono HB.out.size)); have HP2 := Lib.hid (HQ2.out.keep hb); have HP1 := Lib.hid (HQ1.out.keep hb); clear hb)
    | (go_at_call 51; (with_reducible refine (rtrim_any HP1.out HL'.out).mono ?_); rintro e w3 ⟨p1, s1, rfl, ht, hb⟩; rw [HTX.out] at ht ⊢; have HT := Lib.hid ht; have HB3 := Lib.hid (HB2.out.trans (hb.mono HB2.out.size)); have HO2 := Lib.hid (HP2.out.keep hb); clear ht hb)
    | (go_at_call 51; (with_reducible refine (rtrim_any HO2.out HM'.out).mono ?_); rintro e w4 ⟨p2, s2, rfl, ht, hb⟩; rw [HTY.out] at ht ⊢; have HT2 := Lib.hid ht; have HT1 := Lib.hid (HT.out.keep hb); have HB4 := Lib.hid (HB3.out.trans (hb.mono HB3.out.size)); clear ht hb))
  have HST := Lib.hid (show Ru w4 (.slice p1 (limb x).length s1) (limb x) ∧ Ru w4 (.slice p2 (limb y).length s2) (limb y) by rw [HX.out, HY.out]; exact ⟨HT1.out, HT2.out⟩)
  rw [← HX.out, ← HY.out]
  go_loopg [6, 7] y (fun gk s6 s7 wr => ∃ (p : Nat) (pa qa : Option Addr) (pc qc : Nat), s6 = .slice pa (limb p).length pc ∧ s7 = .slice qa (limb gk).length qc ∧ p < 4294967296 ∧ gk < 4294967296 ∧ Hid (Nat.gcd p gk = G) ∧ Hid (Ru wr (.slice pa (limb p).length pc) (limb p)) ∧ Hid (Ru wr (.slice qa (limb gk).length qc) (limb gk)) ∧ Hid (Below w.heap.size w wr))
  case atStart => exact ⟨x, _, _, _, _, rfl, rfl, hx, hy, HG, Lib.hid HST.out.1, Lib.hid HST.out.2, HB4⟩
  case round =>
    obtain ⟨p, pa, qa, pc, qc, rfl, rfl, hp, hq, HGP, HP, HQ, HBW⟩ := hrel
    clear HST HT1 HT2
    by_cases h0 : gk = 0
    · subst h0
      have e : Nat.gcd p 0 = p := Nat.gcd_zero_right p
      have HE := Lib.hid (show p = G by rw [← HGP.out, e])
      have hl0 : (limb 0).length = 0 := rfl
      rw [hl0] at HQ ⊢
      clear hl0
      go_wp2_with fail
      go_ret2
      exact ⟨_, _, by rw [← HE.out]; rfl, by rw [← HE.out]; exact HP.out, HBW.out⟩
    · have hq0 : 0 < gk := by omega
      have hll : (limb gk).length = 1 := by rw [limb_len, if_neg h0]
      have HQR := Lib.hid HQ.out.rd
      have HHP := Lib.hid hp
      have HHQ := Lib.hid hq
      have HH0 := Lib.hid hq0
      rw [hll] at HQR ⊢
      go_wp2_with (first
        | (go_at_call 96; (with_reducible refine (rdivide_as HP.out.rd HQR.out HHP.out HHQ.out HH0.out).mono ?_); rintro e w5 ⟨a5, c5, a6, c6, rfl, k1, k2, hb⟩; have HK2 := Lib.hid k2; have HQ2 := Lib.hid (HQ.out.keep hb); have HB5 := Lib.hid (HBW.out.trans (hb.mono HBW.out.size)); clear k1 k2 hb))
      go_roundg (p % gk)
      case measure => exact Nat.mod_lt _ hq0
      case rel => exact ⟨gk, _, _, _, _, by rw [hll], rfl, hq, Nat.lt_trans (Nat.mod_lt _ hq0) hq, Lib.hid (by rw [← HGP.out, Nat.gcd_comm p gk, Nat.gcd_rec gk p, Nat.gcd_comm]), Lib.hid (by rw [hll] at HQ2 ⊢; exact HQ2.out), HK2, HB5⟩
end Go.Proofs.YtgnmolleaengaaaGreat

/- The walks of the reference's Div, lowest, size and Make. -/
namespace Go.Proofs.YtgnmolleaengaaaGreat
open Go Go.RowKit

set_option maxRecDepth 20000 in
set_option maxHeartbeats 1000000 in
theorem rdiv_as {w : World} {v u : Value} {x y : Nat} (h : Rd eU w v (limb x)) (h2 : Rd eU w u (limb y)) (hx : x < 4294967296) (hy : y < 4294967296) (hy0 : 0 < y) :
    Calls Tryz.prog 71 #[v, u] w fun e w' => ∃ a c a2 n2 c2, e = .returned (.tuple #[.slice a (limb (x / y)).length c, .slice a2 n2 c2, .int .i64 0]) ∧ Ru w' (.slice a (limb (x / y)).length c) (limb (x / y)) ∧ Below w.heap.size w w' := by
  have HR := Lib.hid h
  have HR2 := Lib.hid h2
  have HL := Lib.hid (climb x)
  have HM := Lib.hid (climb y)
  have HL' := Lib.hid (climb' x)
  have HM' := Lib.hid (climb' y)
  have HTX := Lib.hid (trim_limb x)
  have HTY := Lib.hid (trim_limb y)
  have HYL := Lib.hid (show (limb y).length = 1 by rw [limb_len, if_neg (by omega)])
  obtain ⟨a, cap, rfl, hlen⟩ := h.open
  obtain ⟨a2, cap2, rfl, hlen2⟩ := h2.open
  have HHX := Lib.hid hx
  have HHY := Lib.hid hy
  have HH0 := Lib.hid hy0
  have TOK := Lib.hid True.intro
  rw [HYL.out] at HR2 ⊢
  clear h h2
  go_enter Tryz.func71, Tryz.ntmps71
  go_wp2_with (first
    | (go_at_call 95; (with_reducible refine (rlarge_as HR.out HL.out).mono ?_); rintro e w1 ⟨rfl, hb⟩; have HB := Lib.hid hb; have HQ2 := Lib.hid (HR2.out.keep hb); have HQ1 := Lib.hid (HR.out.keep hb); clear hb)
    | (go_at_call 95; (with_reducible refine (rlarge_as HQ2.out HM.out).mono ?_); rintro e w2 ⟨rfl, hb⟩; have HB2 := Lib.hid (HB.out.trans (hb.mono HB.out.size)); have HP2 := Lib.hid (HQ2.out.keep hb); have HP1 := Lib.hid (HQ1.out.keep hb); clear hb)
    | (go_at_call 51; (have _t := TOK; (with_reducible refine (rtrim_any HP2.out HM'.out).mono ?_); rintro e w3 ⟨p1, s1, rfl, ht, hb⟩; rw [HTY.out, HYL.out]; have HB3 := Lib.hid (HB2.out.trans (hb.mono HB2.out.size)); have HO2 := Lib.hid (HP2.out.keep hb); have HO1 := Lib.hid (HP1.out.keep hb); clear ht hb TOK _t))
    | (go_at_call 51; (with_reducible refine (rtrim_any HO1.out HL'.out).mono ?_); rintro e w4 ⟨p2, s2, rfl, ht, hb⟩; rw [HTX.out] at ht ⊢; have HT := Lib.hid ht; have HB4 := Lib.hid (HB3.out.trans (hb.mono HB3.out.size)); have HV2 := Lib.hid (HO2.out.keep hb); clear ht hb)
    | (go_at_call 51; (with_reducible refine (rtrim_any HV2.out HM'.out).mono ?_); rintro e w5 ⟨p3, s3, rfl, ht, hb⟩; rw [HTY.out, HYL.out] at ht; rw [HTY.out, HYL.out]; have HT2 := Lib.hid ht; have HT1 := Lib.hid (HT.out.keep hb); have HB5 := Lib.hid (HB4.out.trans (hb.mono HB4.out.size)); clear ht hb)
    | (go_at_call 96; (with_reducible refine (rdivide_as HT1.out.rd HT2.out.rd HHX.out HHY.out HH0.out).mono ?_); rintro e w6 ⟨a5, c5, a6, c6, rfl, k1, k2, hb⟩; have HK1 := Lib.hid k1; have HB6 := Lib.hid (HB5.out.trans (hb.mono HB5.out.size)); clear k1 k2 hb))
  exact bodyPost_ret (v := .tuple #[.slice a5 (limb (x / y)).length c5, .slice a6 (limb (x % y)).length c6, .int .i64 0]) (by simp [results, Tryz.results71, go_sem]) rfl ⟨_, _, _, _, _, rfl, HK1.out, HB6.out⟩

/-- a fraction of small numbers: numerator n, denominator d -/
def FqPost (w : World) (n d : Nat) (e : Ending) (w' : World) : Prop := ∃ a c a2 c2, e = .returned (fv false (.slice a (limb n).length c) (.slice a2 (limb d).length c2)) ∧ Ru w' (.slice a (limb n).length c) (limb n) ∧ Ru w' (.slice a2 (limb d).length c2) (limb d) ∧ Below w.heap.size w w'
theorem one_limb (w : World) : Ru (w.alloc (.cells #[.int .u32 1] 94)) (.slice (some ⟨w.heap.size, 0, none⟩) 1 1) [1] := two_own _ _ _ _ _ (Rd.new (E := eU) w [1] (by simp) 94)

set_option maxRecDepth 20000 in
set_option maxHeartbeats 2000000 in
theorem rlowest_as {w : World} {v u : Value} {x y : Nat} (h : Rd eU w v (limb x)) (h2 : Rd eU w u (limb y)) (hx : x < 4294967296) (hy : y < 4294967296) (hy0 : 0 < y) :
    Calls Tryz.prog 47 #[.bool false, v, u] w (FqPost w (x / Nat.gcd x y) (y / Nat.gcd x y)) := by
  have HB0 := Lib.hid (Holds.new w #[.bool false, .slice none 0 0, .slice none 0 0] 27)
  have HTY0 := Lib.hid (TyB.new w #[.bool false, .slice none 0 0, .slice none 0 0] 27)
  have hba := below_alloc w (.cells #[.bool false, .slice none 0 0, .slice none 0 0] 27)
  have HBA := Lib.hid hba
  have HR := Lib.hid (h.keep hba)
  have HR2 := Lib.hid (h2.keep hba)
  have HL' := Lib.hid (climb' x)
  have HM' := Lib.hid (climb' y)
  have HTX := Lib.hid (trim_limb x)
  have HTY := Lib.hid (trim_limb y)
  have HYL := Lib.hid (show (limb y).length = 1 by rw [limb_len, if_neg (by omega)])
  obtain ⟨a, cap, rfl, hlen⟩ := h.open
  obtain ⟨a2, cap2, rfl, hlen2⟩ := h2.open
  have HHX := Lib.hid hx
  have HHY := Lib.hid hy
  have HH0 := Lib.hid hy0
  clear h h2 hba
  by_cases hx0 : x = 0
  · subst hx0
    have hl0 : (limb 0).length = 0 := rfl
    have e1 : (0 / Nat.gcd 0 y) = 0 := Nat.zero_div _
    have e2 : y / Nat.gcd 0 y = 1 := by rw [Nat.gcd_zero_left, Nat.div_self hy0]
    rw [e1, e2]
    rw [hl0] at HR ⊢
    rw [HYL.out] at HR2 ⊢
    clear e1 e2 hlen hlen2
    have HL0 := Lib.hid hl0
    clear hl0
    go_enter Tryz.func47, Tryz.ntmps47
    go_wp2_with (first
      | (go_at_call 51; (with_reducible refine (rtrim_any HR.out HL'.out).mono ?_); rintro e w1 ⟨p1, s1, rfl, ht, hb⟩; rw [HTX.out, HL0.out]; have HBB := Lib.hid hb; have HQ2 := Lib.hid (HR2.out.keep hb); have HH := Lib.hid (HB0.out.keep hb); clear ht hb)
      | (go_at_call 51; (with_reducible refine (rtrim_any HQ2.out HM'.out).mono ?_); rintro e w2 ⟨p2, s2, rfl, ht, hb⟩; rw [HTY.out, HYL.out]; have HBB2 := Lib.hid (HBB.out.trans (hb.mono HBB.out.size)); have HH2 := Lib.hid (HH.out.keep hb); have HH3 := Lib.hid (HH2.out.keep (below_alloc _ (.cells #[.int .u32 1] 94))); obtain ⟨c0, c1, c2, f0, f1, f2, cl⟩ := HH3.out.lay3; clear ht hb))
    have hbb3 := HBB2.out.trans ((below_alloc w2 (.cells #[.int .u32 1] 94)).mono HBB2.out.size)
    have hty := HTY0.out.keep hbb3
    obtain ⟨hp1, hp2⟩ := put3 HH3.out (HBA.out.trans (hbb3.mono HBA.out.size)) (Nat.le_refl _) (.bool false) (.slice none 0 0) (.slice (some ⟨w2.heap.size, 0, none⟩) 1 1)
    refine bodyPost_ret (v := fv false (.slice none 0 0) (.slice (some ⟨w2.heap.size, 0, none⟩) 1 1)) ?_ rfl ⟨none, 0, _, 1, rfl, ru_nil _, (one_limb w2).put3 hty (by decide) _ _ _, hp2⟩
    obtain ⟨d0, d1, d2, -⟩ := hp1.lay3
    clear c0 c1 c2 f0 f1 f2 cl
    simp [results, Tryz.results47, go_sem, d0, d1, d2]
  · obtain ⟨G, hG⟩ : ∃ g, Nat.gcd x y = g := ⟨_, rfl⟩
    have hG0 : 0 < G := by rw [← hG]; exact Nat.gcd_pos_of_pos_right x hy0
    have hGy : G < 4294967296 := by rw [← hG]; exact Nat.lt_of_le_of_lt (Nat.le_of_dvd hy0 (Nat.gcd_dvd_right x y)) hy
    have HG := Lib.hid hG
    have HXL := Lib.hid (show (limb x).length = 1 by rw [limb_len, if_neg hx0])
    have HGL := Lib.hid (show (limb G).length = 1 by rw [limb_len, if_neg (by omega)])
    have HGG := Lib.hid (show limb G = [G] by unfold limb; rw [if_neg (by omega)])
    have HHG := Lib.hid hGy
    have HHG0 := Lib.hid hG0
    rw [hG]
    rw [HXL.out] at HR ⊢
    rw [HYL.out] at HR2 ⊢
    clear hG hlen hlen2
    by_cases hG1 : 1 < G
    · have q1 : decide ((1 : Int) < (G : Int)) = true := by simp; omega
      go_enter Tryz.func47, Tryz.ntmps47
      go_wp2_with (first
        | (go_at_call 51; (with_reducible refine (rtrim_any HR.out HL'.out).mono ?_); rintro e w1 ⟨p1, s1, rfl, ht, hb⟩; rw [HTX.out, HXL.out] at ht; rw [HTX.out, HXL.out]; have HT := Lib.hid ht; have HBB := Lib.hid hb; have HQ2 := Lib.hid (HR2.out.keep hb); have HH := Lib.hid (HB0.out.keep hb); clear ht hb)
        | (go_at_call 51; (with_reducible refine (rtrim_any HQ2.out HM'.out).mono ?_); rintro e w2 ⟨p2, s2, rfl, ht, hb⟩; rw [HTY.out, HYL.out] at ht; rw [HTY.out, HYL.out]; have HT2 := Lib.hid ht; have HT1 := Lib.hid (HT.out.keep hb); have HBB2 := Lib.hid (HBB.out.trans (hb.mono HBB.out.size)); have HH2 := Lib.hid (HH.out.keep hb); clear ht hb)
        | (go_at_call 70; (with_reducible refine (rgcd_as HT1.out.rd HT2.out.rd HHX.out HHY.out).mono ?_); rintro e w3 ⟨p3, s3, rfl, hg, hb⟩; rw [HG.out, HGL.out] at hg; rw [HG.out, HGL.out]; have HU3 := Lib.hid hg; have HU2 := Lib.hid (HT2.out.keep hb); have HU1 := Lib.hid (HT1.out.keep hb); have HBB3 := Lib.hid (HBB2.out.trans (hb.mono HBB2.out.size)); have HH3 := Lib.hid (HH2.out.keep hb); have hgl := hg.rd; rw [HGG.out] at hgl; obtain ⟨gb, go, rfl, -, hgc⟩ := hgl.limb (i := 0) (x := G) rfl; rw [Nat.add_zero] at hgc; clear hg hb hgl)
        | (go_at_call 71; (with_reducible refine (rdiv_as HU1.out.rd HU3.out.rd HHX.out HHG.out HHG0.out).mono ?_); rintro e w4 ⟨p4, s4, p5, n5, s5, rfl, hd, hb⟩; have HV1 := Lib.hid hd; have HV2 := Lib.hid (HU2.out.keep hb); have HV3 := Lib.hid (HU3.out.keep hb); have HBB4 := Lib.hid (HBB3.out.trans (hb.mono HBB3.out.size)); have HH4 := Lib.hid (HH3.out.keep hb); clear hd hb)
        | (go_at_call 71; (with_reducible refine (rdiv_as HV2.out.rd HV3.out.rd HHY.out HHG.out HHG0.out).mono ?_); rintro e w5 ⟨p6, s6, p7, n7, s7, rfl, hd, hb⟩; have HW2 := Lib.hid hd; have HW1 := Lib.hid (HV1.out.keep hb); have HBB5 := Lib.hid (HBB4.out.trans (hb.mono HBB4.out.size)); have HH5 := Lib.hid (HH4.out.keep hb); obtain ⟨c0, c1, c2, f0, f1, f2, cl⟩ := HH5.out.lay3; clear hd hb))
      have hty := HTY0.out.keep HBB5.out
      obtain ⟨hp1, hp2⟩ := put3 HH5.out (HBA.out.trans (HBB5.out.mono HBA.out.size)) (Nat.le_refl _) (.bool false) (.slice p4 (limb (x / G)).length s4) (.slice p6 (limb (y / G)).length s6)
      refine bodyPost_ret (v := fv false (.slice p4 (limb (x / G)).length s4) (.slice p6 (limb (y / G)).length s6)) ?_ rfl ⟨_, _, _, _, rfl, HW1.out.put3 hty (by decide) _ _ _, HW2.out.put3 hty (by decide) _ _ _, hp2⟩
      obtain ⟨d0, d1, d2, -⟩ := hp1.lay3
      clear c0 c1 c2 f0 f1 f2 cl
      simp [results, Tryz.results47, go_sem, d0, d1, d2]
    · obtain rfl : G = 1 := by omega
      rw [Nat.div_one, Nat.div_one]
      go_enter Tryz.func47, Tryz.ntmps47
      go_wp2_with (first
        | (go_at_call 51; (with_reducible refine (rtrim_any HR.out HL'.out).mono ?_); rintro e w1 ⟨p1, s1, rfl, ht, hb⟩; rw [HTX.out, HXL.out] at ht; rw [HTX.out, HXL.out]; have HT := Lib.hid ht; have HBB := Lib.hid hb; have HQ2 := Lib.hid (HR2.out.keep hb); have HH := Lib.hid (HB0.out.keep hb); clear ht hb)
        | (go_at_call 51; (with_reducible refine (rtrim_any HQ2.out HM'.out).mono ?_); rintro e w2 ⟨p2, s2, rfl, ht, hb⟩; rw [HTY.out, HYL.out] at ht; rw [HTY.out, HYL.out]; have HT2 := Lib.hid ht; have HT1 := Lib.hid (HT.out.keep hb); have HBB2 := Lib.hid (HBB.out.trans (hb.mono HBB.out.size)); have HH2 := Lib.hid (HH.out.keep hb); clear ht hb)
        | (go_at_call 70; (with_reducible refine (rgcd_as HT1.out.rd HT2.out.rd HHX.out HHY.out).mono ?_); rintro e w3 ⟨p3, s3, rfl, hg, hb⟩; rw [HG.out, HGL.out] at hg; rw [HG.out, HGL.out]; have HU2 := Lib.hid (HT2.out.keep hb); have HU1 := Lib.hid (HT1.out.keep hb); have HBB3 := Lib.hid (HBB2.out.trans (hb.mono HBB2.out.size)); have HH3 := Lib.hid (HH2.out.keep hb); have hgl := hg.rd; rw [HGG.out] at hgl; obtain ⟨gb, go, rfl, -, hgc⟩ := hgl.limb (i := 0) (x := 1) rfl; rw [Nat.add_zero] at hgc; change w3.cell? ⟨gb, go, none⟩ = some (.int .u32 1) at hgc; obtain ⟨c0, c1, c2, f0, f1, f2, cl⟩ := HH3.out.lay3; clear hg hb hgl))
      have hty := HTY0.out.keep HBB3.out
      obtain ⟨hp1, hp2⟩ := put3 HH3.out (HBA.out.trans (HBB3.out.mono HBA.out.size)) (Nat.le_refl _) (.bool false) (.slice p1 1 s1) (.slice p2 1 s2)
      refine bodyPost_ret (v := fv false (.slice p1 1 s1) (.slice p2 1 s2)) ?_ rfl ⟨p1, s1, p2, s2, by rw [HXL.out, HYL.out], by rw [HXL.out]; exact HU1.out.put3 hty (by decide) _ _ _, by rw [HYL.out]; exact HU2.out.put3 hty (by decide) _ _ _, hp2⟩
      obtain ⟨d0, d1, d2, -⟩ := hp1.lay3
      clear c0 c1 c2 f0 f1 f2 cl
      simp [results, Tryz.results47, go_sem, d0, d1, d2]

theorem size_as {n : Nat} (hn : n < 4294967296) (w : World) : Calls Tryz.prog 49 #[.int .i64 n] w fun e w' => e = .returned (.int .u64 n) ∧ w = w' := by
  have q : decide ((n : Int) < 0) = false := by simp
  go_enter Tryz.func49, Tryz.ntmps49
  go_wp2_with fail
  go_ret
  exact ⟨rfl, rfl⟩

def FePost (w : World) (n d : Nat) (e : Ending) (w' : World) : Prop := ∃ a c a2 c2, e = .returned (.tuple #[fv false (.slice a (limb n).length c) (.slice a2 (limb d).length c2), .int .i64 0]) ∧ Ru w' (.slice a (limb n).length c) (limb n) ∧ Ru w' (.slice a2 (limb d).length c2) (limb d) ∧ Below w.heap.size w w'

set_option maxRecDepth 20000 in
set_option maxHeartbeats 2000000 in
theorem rfmake_as {n d : Nat} (hn : n < 4294967296) (hd : d < 4294967296) (hd0 : 0 < d) (w : World) :
    Calls Tryz.prog 27 #[.int .i64 n, .int .i64 d] w (FePost w (n / Nat.gcd n d) (d / Nat.gcd n d)) := by
  have HB0 := Lib.hid (Holds.new w #[.bool false, .slice none 0 0, .slice none 0 0] 27)
  have HTY0 := Lib.hid (TyB.new w #[.bool false, .slice none 0 0, .slice none 0 0] 27)
  have HBA := Lib.hid (below_alloc w (.cells #[.bool false, .slice none 0 0, .slice none 0 0] 27))
  have q0 : ((d : Int) == 0) = false := by simp; omega
  have q1 : decide ((n : Int) < 0) = false := by simp
  have q2 : decide ((d : Int) < 0) = false := by simp
  have HN := Lib.hid hn
  have HD := Lib.hid hd
  have HD0 := Lib.hid hd0
  obtain ⟨X, hX⟩ : ∃ x, n / Nat.gcd n d = x := ⟨_, rfl⟩
  obtain ⟨Y, hY⟩ : ∃ x, d / Nat.gcd n d = x := ⟨_, rfl⟩
  rw [hX, hY]
  have HX := Lib.hid hX
  have HY := Lib.hid hY
  clear hX hY
  go_enter Tryz.func27, Tryz.ntmps27
  go_wp2_with (first
    | (go_at_call 49; (with_reducible refine (size_as HN.out _).mono ?_); rintro e w1 ⟨rfl, rfl⟩)
    | (go_at_call 49; (with_reducible refine (size_as HD.out _).mono ?_); rintro e w1 ⟨rfl, rfl⟩)
    | (go_at_call 48; (with_reducible refine (rmake_as HN.out).mono ?_); rintro e w1 ⟨p1, s1, rfl, ht, hb⟩; have HT := Lib.hid ht; have HBB := Lib.hid hb; have HH := Lib.hid (HB0.out.keep hb); clear ht hb)
    | (go_at_call 48; (with_reducible refine (rmake_as HD.out).mono ?_); rintro e w2 ⟨p2, s2, rfl, ht, hb⟩; have HT2 := Lib.hid ht; have HT1 := Lib.hid (HT.out.keep hb); have HBB2 := Lib.hid (HBB.out.trans (hb.mono HBB.out.size)); have HH2 := Lib.hid (HH.out.keep hb); clear ht hb)
    | (go_at_call 47; (with_reducible refine (rlowest_as HT1.out.rd HT2.out.rd HN.out HD.out HD0.out).mono ?_); rintro e w3 ⟨p3, s3, p4, s4, rfl, k1, k2, hb⟩; rw [HX.out] at k1; rw [HY.out] at k2; rw [HX.out, HY.out]; have HK1 := Lib.hid k1; have HK2 := Lib.hid k2; have HBB3 := Lib.hid (HBB2.out.trans (hb.mono HBB2.out.size)); have HH3 := Lib.hid (HH2.out.keep hb); obtain ⟨c0, c1, c2, f0, f1, f2, cl⟩ := HH3.out.lay3; clear k1 k2 hb))
  have hty := HTY0.out.keep HBB3.out
  obtain ⟨hp1, hp2⟩ := put3 HH3.out (HBA.out.trans (HBB3.out.mono HBA.out.size)) (Nat.le_refl _) (.bool false) (.slice p3 (limb X).length s3) (.slice p4 (limb Y).length s4)
  refine bodyPost_ret (v := .tuple #[fv false (.slice p3 (limb X).length s3) (.slice p4 (limb Y).length s4), .int .i64 0]) ?_ rfl ⟨_, _, _, _, rfl, HK1.out.put3 hty (by decide) _ _ _, HK2.out.put3 hty (by decide) _ _ _, hp2⟩
  obtain ⟨d0, d1, d2, -⟩ := hp1.lay3
  clear c0 c1 c2 f0 f1 f2 cl
  simp [results, Tryz.results27, go_sem, d0, d1, d2]
end Go.Proofs.YtgnmolleaengaaaGreat
