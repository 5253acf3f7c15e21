/- The walks of the reference's naturals: Cmp; divide at one limb. -/
import Derived.Test.YtgnmolleaengaaaNh
import Derived.Laws.Bits64b
set_option linter.unusedVariables false
set_option linter.unusedSimpArgs false
set_option linter.unnecessarySimpa false
namespace Go.Proofs.Ytgnmolleaengaaa
open Go Go.RowKit

set_option maxHeartbeats 1000000 in
theorem rcmp_any {w : World} {v u : Value} {l m : List Nat} (h : Rd eU w v l) (h2 : Rd eU w u m) (hl : clen l ≤ 5000) (hm : clen m ≤ 5000) {r : Int} (hr : cmpN l m = r) : Calls Try.prog 82 #[v, u] w fun e w' => e = .returned (.int .i64 r) ∧ Below w.heap.size w w' := by
  have HR := Lib.hid h
  have HR2 := Lib.hid h2
  have HL := Lib.hid hl
  have HM := Lib.hid hm
  obtain ⟨a, cap, rfl, hlen⟩ := h.open
  obtain ⟨a2, cap2, rfl, hlen2⟩ := h2.open
  obtain ⟨c, hc⟩ : ∃ c, (trim l).length = c := ⟨_, rfl⟩
  obtain ⟨d, hd⟩ : ∃ c, (trim m).length = c := ⟨_, rfl⟩
  have HC := Lib.hid hc
  have HD := Lib.hid hd
  rw [trim_len] at hc hd
  have HRR := Lib.hid (show (if c < d then -1 else if d < c then 1 else cmpAt (trim l) (trim m) c) = r by
    rw [← hr, ← cmpN_trim]
    unfold cmpN
    rw [clen_trim, clen_trim, hc, hd])
  rw [hc] at hl
  rw [hd] at hm
  clear h h2 hc hd hr
  by_cases h1 : c < d
  · have q : decide ((c : Int) < (d : Int)) = true := by simp; omega
    have q2 : ((c : Int) != (d : Int)) = true := by simp; omega
    go_enter Try.func82, Try.ntmps82
    go_wp2_with (first
      | (go_at_call 41; (with_reducible refine (rtrim_any HR.out HL.out).mono ?_); rintro e w1 ⟨p1, s1, rfl, ht, hb⟩; rw [HC.out] at ht ⊢; have HB := Lib.hid hb; have HQ := Lib.hid (HR2.out.keep hb); clear ht hb)
      | (go_at_call 41; (with_reducible refine (rtrim_any HQ.out HM.out).mono ?_); rintro e w2 ⟨p2, s2, rfl, ht, hb⟩; rw [HD.out] at ht ⊢; have HB2 := Lib.hid (HB.out.trans (hb.mono HB.out.size)); clear ht hb))
    go_ret
    exact ⟨by rw [← HRR.out, if_pos h1]; rfl, HB2.out⟩
  have q1 : decide ((c : Int) < (d : Int)) = false := by simp; omega
  by_cases h3 : d < c
  · have q2 : ((c : Int) != (d : Int)) = true := by simp; omega
    go_enter Try.func82, Try.ntmps82
    go_wp2_with (first
      | (go_at_call 41; (with_reducible refine (rtrim_any HR.out HL.out).mono ?_); rintro e w1 ⟨p1, s1, rfl, ht, hb⟩; rw [HC.out] at ht ⊢; have HB := Lib.hid hb; have HQ := Lib.hid (HR2.out.keep hb); clear ht hb)
      | (go_at_call 41; (with_reducible refine (rtrim_any HQ.out HM.out).mono ?_); rintro e w2 ⟨p2, s2, rfl, ht, hb⟩; rw [HD.out] at ht ⊢; have HB2 := Lib.hid (HB.out.trans (hb.mono HB.out.size)); clear ht hb))
    go_ret
    exact ⟨by rw [← HRR.out, if_neg h1, if_pos h3]; rfl, HB2.out⟩
  obtain rfl : c = d := by omega
  have HQ0 := Lib.hid (show cmpAt (trim l) (trim m) c = r by have := HRR.out; rw [if_neg h1, if_neg h3] at this; exact this)
  clear HRR h1 h3 q1
  have q2 : ((c : Int) != (c : Int)) = false := by simp
  go_enter Try.func82, Try.ntmps82
  go_wp2_with (first
    | (go_at_call 41; (with_reducible refine (rtrim_any HR.out HL.out).mono ?_); rintro e w1 ⟨p1, s1, rfl, ht, hb⟩; rw [HC.out] at ht ⊢; have HT := Lib.hid ht.rd; have HB := Lib.hid hb; have HQ := Lib.hid (HR2.out.keep hb); clear ht hb)
    | (go_at_call 41; (with_reducible refine (rtrim_any HQ.out HM.out).mono ?_); rintro e w2 ⟨p2, s2, rfl, ht, hb⟩; rw [HD.out] at ht ⊢; have HT1 := Lib.hid (HT.out.keep hb); have HT2 := Lib.hid ht.rd; have HB2 := Lib.hid (HB.out.trans (hb.mono HB.out.size)); clear ht hb))
  clear HT
  go_loopw [5] (fun s wr => ∃ (k q : Nat), k ≤ c ∧ s = .int .i64 ((k : Int) - 1) ∧ wr = w2.drewN q ∧ Hid (cmpAt (trim l) (trim m) k = r)) (fun s _ => (intOf s + 1).toNat)
  case atStart => exact ⟨c, 0, Nat.le_refl _, rfl, rfl, HQ0⟩
  case round =>
    obtain ⟨k, q, hk, rfl, rfl, HK⟩ := hrel
    cases k with
    | zero =>
      go_wp2_with fail
      go_ret
      exact ⟨by rw [← HK.out]; rfl, below_drewN HB2.out _⟩
    | succ k =>
      obtain ⟨x, hx⟩ : ∃ x, (trim l)[k]? = some x := ⟨(trim l)[k]'(by have := HC.out; omega), by simp⟩
      obtain ⟨y, hy⟩ : ∃ x, (trim m)[k]? = some x := ⟨(trim m)[k]'(by have := HD.out; omega), by simp⟩
      obtain ⟨b, off, rfl, hb, hcell⟩ := HT1.out.limb hx
      obtain ⟨b2, off2, rfl, hb2, hcell2⟩ := HT2.out.limb hy
      have HK2 := Lib.hid (show (if x < y then -1 else if y < x then 1 else cmpAt (trim l) (trim m) k) = r by have := HK.out; rw [cmpAt] at this; simpa [List.getD_eq_getElem?_getD, hx, hy] using this)
      have hkk : ((k + 1 : Nat) : Int) - 1 = (k : Int) := by omega
      rw [hkk]
      have h0 : decide ((0 : Int) ≤ (k : Int)) = true := by simp
      clear hx hy hkk HK
      by_cases e1 : x < y
      · have t1 : decide ((x : Int) < (y : Int)) = true := by simp; omega
        go_wp2_with fail
        go_quiet (fail)
        go_wp2_with fail
        go_ret
        exact ⟨by rw [← HK2.out, if_pos e1]; rfl, below_drewN (below_drewN HB2.out _) _⟩
      have t1 : decide ((x : Int) < (y : Int)) = false := by simp; omega
      by_cases e2 : y < x
      · have t2 : decide ((y : Int) < (x : Int)) = true := by simp; omega
        go_wp2_with fail
        go_quiet (fail)
        go_wp2_with fail
        go_quiet (fail)
        go_wp2_with fail
        go_ret
        exact ⟨by rw [← HK2.out, if_neg e1, if_pos e2]; rfl, below_drewN (below_drewN (below_drewN HB2.out _) _) _⟩
      · have t2 : decide ((y : Int) < (x : Int)) = false := by simp; omega
        go_wp2_with fail
        go_quiet (fail)
        go_wp2_with fail
        go_quiet (fail)
        go_wp2_with fail
        go_roundw
        case rel => exact ⟨k, _, by omega, by go_num, rfl, Lib.hid (by rw [← HK2.out, if_neg e1, if_neg e2])⟩
        case measure => simp [intOf]

/-- two numbers -/
def TwoPost (w : World) (l m : List Nat) (e : Ending) (w' : World) : Prop := ∃ a c a2 c2, e = .returned (.tuple #[.slice a l.length c, .slice a2 m.length c2]) ∧ Ru w' (.slice a l.length c) l ∧ Ru w' (.slice a2 m.length c2) m ∧ Below w.heap.size w w'
theorem ru_nil (w : World) : Ru w (.slice none 0 0) [] := ⟨Rd.nil w none 0 (by omega), fun k hk => by cases hk⟩

set_option maxRecDepth 20000 in
set_option maxHeartbeats 2000000 in
theorem rdivide_as {w : World} {v u : Value} {x y : Nat} (h : Rd eU w v (limb x)) (h2 : Rd eU w u (limb y)) (hx : x < 4294967296) (hy : y < 4294967296) (hy0 : 0 < y) :
    Calls Try.prog 64 #[v, u] w (TwoPost w (limb (x / y)) (limb (x % y))) := by
  have HR := Lib.hid h
  have HR2 := Lib.hid h2
  have HL := Lib.hid (show clen (limb x) ≤ 5000 by rw [clen_limb]; split <;> omega)
  have HM := Lib.hid (show clen (limb y) ≤ 5000 by rw [clen_limb]; split <;> omega)
  have HTX := Lib.hid (trim_limb x)
  have hcm := cmpN_limb x y
  obtain ⟨r, hr⟩ : ∃ r, cmpN (limb x) (limb y) = r := ⟨_, rfl⟩
  have HC := Lib.hid hr
  rw [hr] at hcm
  by_cases hlt : x < y
  · rw [if_pos hlt] at hcm
    subst hcm
    have e1 : x / y = 0 := Nat.div_eq_of_lt hlt
    have e2 : x % y = x := Nat.mod_eq_of_lt hlt
    rw [e1, e2]
    obtain ⟨a, cap, rfl, hlen⟩ := h.open
    obtain ⟨a2, cap2, rfl, hlen2⟩ := h2.open
    obtain ⟨X, hX⟩ : ∃ L, limb x = L := ⟨_, rfl⟩
    obtain ⟨Y, hY⟩ : ∃ L, limb y = L := ⟨_, rfl⟩
    rw [hX] at HR HL HC HTX hlen ⊢
    rw [hY] at HR2 HM HC hlen2 ⊢
    clear h h2 hX hY hr e1 e2
    go_enter Try.func64, Try.ntmps64
    go_wp2_with (first
      | (go_at_call 82; (with_reducible refine (rcmp_any HR.out HR2.out HL.out HM.out HC.out).mono ?_); rintro e w1 ⟨rfl, hb⟩; have HB := Lib.hid hb; have HQ := Lib.hid (HR.out.keep hb); clear hb)
      | (go_at_call 41; (with_reducible refine (rtrim_any HQ.out HL.out).mono ?_); rintro e w2 ⟨p1, s1, rfl, ht, hb⟩; rw [HTX.out] at ht ⊢; have HT := Lib.hid ht; have HB2 := Lib.hid (HB.out.trans (hb.mono HB.out.size)); clear ht hb))
    go_ret2
    exact ⟨none, 0, _, _, rfl, ru_nil _, HT.out, HB2.out⟩
  · have hnn : decide (r < 0) = false := by rw [hcm, if_neg hlt]; split <;> rfl
    have ex : limb x = [x] := by unfold limb; rw [if_neg (by omega)]
    have ey : limb y = [y] := by unfold limb; rw [if_neg (by omega)]
    rw [ex] at h HR HL HC
    rw [ey] at h2 HR2 HM HC
    obtain ⟨a, cap, rfl, hlen⟩ := h.open
    obtain ⟨a2, cap2, rfl, hlen2⟩ := h2.open
    rw [List.length_singleton] at h h2 HR HR2 ⊢
    obtain ⟨b, off, rfl, hbl, hc0⟩ := h.limb (i := 0) (x := x) rfl
    obtain ⟨b2, off2, rfl, hbl2, hc2⟩ := h2.limb (i := 0) (x := y) rfl
    rw [Nat.add_zero] at hc0 hc2
    obtain ⟨Q, hQ⟩ : ∃ Q, x / y = Q := ⟨_, rfl⟩
    obtain ⟨R, hR⟩ : ∃ R, x % y = R := ⟨_, rfl⟩
    have hQb : Q < 4294967296 := by rw [← hQ]; exact Nat.lt_of_le_of_lt (Nat.div_le_self x y) hx
    have hRb : R < 4294967296 := by rw [← hR]; exact Nat.lt_trans (Nat.mod_lt x hy0) hy
    have hqi : (x : Int) / (y : Int) = (Q : Int) := by rw [← hQ]; simp
    have hri : (x : Int) % (y : Int) = (R : Int) := by rw [← hR]; simp
    have hqt : (x : Int).tdiv (y : Int) = (Q : Int) := by rw [Int.tdiv_eq_ediv_of_nonneg (by omega)]; exact hqi
    have hrt : (x : Int).tmod (y : Int) = (R : Int) := by rw [Int.tmod_eq_emod_of_nonneg (by omega)]; exact hri
    have hy1 : ((y : Int) == 0) = false := by simp; omega
    rw [hQ, hR]
    have HQD := Lib.hid (show trim [Q] = limb Q by unfold trim limb; by_cases h : Q = 0 <;> simp [clen, h])
    have HQL := Lib.hid (show clen [Q] ≤ 5000 by simp [clen]; split <;> omega)
    have H1 := Lib.hid (show (1 : Nat) ≤ 2000 by omega)
    have C0 := Lib.hid hc0
    have C2 := Lib.hid hc2
    clear h h2 hcm hr hQ hR ex ey
    go_enter Try.func64, Try.ntmps64
    go_wp2_with (first
      | (go_at_call 82; (with_reducible refine (rcmp_any HR.out HR2.out HL.out HM.out HC.out).mono ?_); rintro e w1 ⟨rfl, hb⟩; have HB := Lib.hid hb; have e0 := (hb.cell (p := ⟨b, off, none⟩) hbl).trans C0.out; have e2 := (hb.cell (p := ⟨b2, off2, none⟩) hbl2).trans C2.out; clear hb)
      | (refine wp_make29 (n := 1) _ _ rfl rfl rfl rfl H1.out ?_; intro w2 HO))
    have hbg : b2 < w1.heap.size := Nat.lt_of_lt_of_le hbl2 HB.out.size
    obtain ⟨g, hg⟩ : ∃ g, w1.heap.size = g := ⟨_, rfl⟩
    rw [hg] at HO hbg ⊢
    clear hg
    have f0 := (HO.out.below.cell (p := ⟨b, off, none⟩) (Nat.lt_of_lt_of_le hbl HB.out.size)).trans e0
    have f2 := (HO.out.below.cell (p := ⟨b2, off2, none⟩) (Nat.lt_of_lt_of_le hbl2 HB.out.size)).trans e2
    obtain ⟨z0, zf⟩ := HO.out.at (i := 0) (by simp)
    have hbo : bits .or .u64 0 (x : Int) = (x : Int) := by
      have := bits_or_u64_nat 0 x (by omega) (by omega)
      simpa using this
    have hne : ¬ g = b2 := by omega
    have hQm : (Q : Int) % 4294967296 = (Q : Int) := by omega
    have HO2 := Lib.hid (HO.out.put 0 Q)
    change Hid (Mo w1 g [Q] _) at HO2
    have HRD := HO2.out.rd (by simp)
    rw [List.length_singleton] at HRD
    have HRD := Lib.hid HRD
    have HRB := Lib.hid hRb
    clear e0 e2 HO hqi hri
    refine wp_loop_rounds 2 ?_
    rw [rounds_succ]
    go_wp2_with fail
    rw [rounds_succ]
    go_wp2_with (first
      | (go_at_call 41; (with_reducible refine (rtrim_any HRD.out HQL.out).mono ?_); rintro e w5 ⟨p1, s1, rfl, ht, hb⟩; rw [HQD.out] at ht ⊢; have HT := Lib.hid ht; have HB5 := Lib.hid (HB.out.trans ((HO2.out.below.trans (hb.mono HO2.out.below.size)).mono HB.out.size)); clear ht hb)
      | (go_at_call 27; (with_reducible refine (rmake_as HRB.out).mono ?_); rintro e w6 ⟨p2, s2, rfl, ht, hb⟩; have HT2 := Lib.hid ht; have HT1 := Lib.hid (HT.out.keep hb); have HB6 := Lib.hid (HB5.out.trans (hb.mono HB5.out.size)); clear ht hb))
    go_ret2
    exact ⟨_, _, _, _, rfl, HT1.out, HT2.out, HB6.out⟩
end Go.Proofs.Ytgnmolleaengaaa
