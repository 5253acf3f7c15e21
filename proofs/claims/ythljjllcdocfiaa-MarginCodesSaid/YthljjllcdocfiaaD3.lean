/- Walks: pick of slices, Union. -/
import Derived.Test.YthljjllcdocfiaaD2
set_option linter.unusedVariables false
set_option linter.unusedSimpArgs false
set_option linter.unnecessarySimpa false
namespace Go.Proofs.Ythljjllcdocfiaa
open Go Go.RowKit Go.MapKept

/-- the groups that a mask names -/
def chG (G : List (List Int)) (m : Nat) : List (List Int) := (memL m).map fun i => G.getD i.toNat []
/-- .. the first k of them -/
def chGk (G : List (List Int)) (m k : Nat) : List (List Int) := ((memL m).take k).map fun i => G.getD i.toNat []
def chHk (hs : List Hd) (m k : Nat) : List Hd := ((memL m).take k).map fun i => hs.getD i.toNat (none, 0, 0)
theorem chHk_succ {hs : List Hd} {m k : Nat} {i : Int} (h : (memL m)[k]? = some i) : chHk hs m (k + 1) = chHk hs m k ++ [hs.getD i.toNat (none, 0, 0)] := by
  unfold chHk
  rw [List.take_add_one, h]
  simp
theorem chGk_succ {G : List (List Int)} {m k : Nat} {i : Int} (h : (memL m)[k]? = some i) : chGk G m (k + 1) = chGk G m k ++ [G.getD i.toNat []] := by
  unfold chGk
  rw [List.take_add_one, h]
  simp
theorem chHk_len (hs : List Hd) (m k : Nat) : (chHk hs m k).length ≤ k := by
  unfold chHk
  rw [List.length_map, List.length_take]
  omega
theorem chG_mem {G : List (List Int)} {m : Nat} {r : List Int} (h : r ∈ chG G m) : r ∈ G ∨ r = [] := by
  unfold chG at h
  obtain ⟨i, _, rfl⟩ := List.mem_map.1 h
  by_cases hi : i.toNat < G.length
  · left
    rw [show G.getD i.toNat [] = G[i.toNat] by simp [hi]]
    exact List.getElem_mem _
  · right
    simp [List.getElem?_eq_none (Nat.le_of_not_lt hi)]

set_option maxHeartbeats 2000000 in
theorem pickS_any {v : Value} {hs : List Hd} {G : List (List Int)} {w : World} (h : RR w v hs G) (m : Nat) (hl : G.length ≤ 60) (hm : m < 2 ^ G.length) :
    Calls Try.prog 46 #[v, .int .i64 m] w fun e w' => ∃ p cap, e = .returned (.slice p (chG G m).length cap) ∧ Below w.heap.size w w' ∧ RR w' (.slice p (chG G m).length cap) (chHk hs m (memL m).length) (chG G m) := by
  obtain ⟨a, cap, rfl, hlen⟩ := h.rd.open
  have H := Lib.hid h
  have HM := Lib.hid hm
  have hmb : m < 4611686018427387904 := by
    have : 2 ^ G.length ≤ 2 ^ 60 := Nat.pow_le_pow_right (by decide) hl
    have e : (2 : Nat) ^ 60 = 1152921504606846976 := by decide
    omega
  obtain ⟨n, hn⟩ : ∃ n, hs.length = n := ⟨_, rfl⟩
  have HN := Lib.hid hn
  have HNG := Lib.hid (show G.length = n by rw [← h.len, hn])
  rw [hn] at hlen ⊢
  rw [HNG.out] at hl
  clear h hn hm
  go_enter Try.func46, Try.ntmps46
  go_wp2_with (first
    | (go_at_call 31; (with_reducible refine (members_any _ hmb _).mono ?_); rintro e w1 ⟨p, c, rfl, ho⟩; have HO := Lib.hid ho; have HW := Lib.hid (ho.rd (by have := memL_len m; omega)); clear ho))
  obtain ⟨r, hr⟩ : ∃ r, (memL m).length = r := ⟨_, rfl⟩
  have HRL := Lib.hid hr
  have hr63 : r ≤ 63 := by rw [← hr]; exact memL_len m
  rw [hr]
  clear hr
  go_loopw [5, 11] (fun x y wr => ∃ (k : Nat) (p : Option Addr) (c : Nat), k ≤ r ∧ y = .int .i64 k ∧ x = .slice p (chHk hs m k).length c ∧ Hid (Ow eH 31 w1 wr (.slice p (chHk hs m k).length c) (chHk hs m k))) (fun _ y _ => r - (intOf y).toNat)
  case atStart => exact ⟨0, none, 0, by omega, rfl, rfl, Lib.hid (Ow.start 31 w1)⟩
  case round =>
    rename World => wr
    obtain ⟨k, p2, c2, hk, rfl, rfl, HP⟩ := hrel
    by_cases hkr : k < r
    · obtain ⟨i, hi⟩ : ∃ i, (memL m)[k]? = some i := ⟨(memL m)[k]'(by rw [HRL.out]; exact hkr), by simp⟩
      obtain ⟨j, rfl, hj, hbit⟩ := mem_lt HM.out (by rw [HNG.out]; omega) hi
      rw [HNG.out] at hj
      have HR := HW.out.below HP.out.below (Nat.le_refl _)
      rw [HRL.out] at HR
      obtain ⟨b, off, rfl, hb, c0⟩ := HR.int (by rw [HRL.out]; exact hkr)
      rw [show (memL m).getD k 0 = (j : Int) by simp [hi]] at c0
      have HR2 := ((H.out.below HO.out.below (Nat.le_refl _)).below HP.out.below (Nat.le_refl _)).rd
      rw [HN.out] at HR2
      obtain ⟨x, hx⟩ : ∃ x, hs[j]? = some x := ⟨hs[j]'(by rw [HN.out]; exact hj), by simp⟩
      obtain ⟨b2, off2, rfl, hb2, c1⟩ := HR2.hd hx
      have HS := Lib.hid (show chHk hs m (k + 1) = chHk hs m k ++ [x] by rw [chHk_succ hi, Int.toNat_natCast]; simp [hx])
      have HL := Lib.hid (chHk_len hs m k)
      obtain ⟨xa, xn, xc⟩ := x
      simp only at c1
      have HE2 := Lib.hid (show (chHk hs m (k + 1)).length = (chHk hs m k).length + 1 by rw [HS.out]; simp)
      clear hi HR HR2 hx hbit
      go_wp2_with (first
        | (at_builtin; refine wpList_push elt35 (E := eH) (x := ((xa, xn, xc) : Hd)) _ _ rfl rfl rfl rfl rfl HP.out (by have := HL.out; omega) ?_; intro p3 c3 w3 HO3 HG3))
      go_roundw
      case rel => exact ⟨k + 1, p3, c3, by omega, by go_num, by rw [HE2.out], Lib.hid (by rw [HE2.out, HS.out]; exact HO3.out)⟩
      case measure => simp [intOf]; omega
    · obtain rfl : k = r := by omega
      have HF := Lib.hid (show (chHk hs m k).length = (chG G m).length by unfold chHk chG; rw [← HRL.out, List.take_length, List.length_map, List.length_map])
      have HLK := Lib.hid (chHk_len hs m k)
      go_wp2_with fail
      go_ret
      have hb := HO.out.below.trans (HP.out.below.mono HO.out.below.size)
      have ho := HP.out.rd (by have := HLK.out; omega)
      rw [HF.out] at ho ⊢
      refine ⟨p2, c2, rfl, hb, ?_⟩
      rw [HRL.out]
      refine ⟨ho, HF.out, fun i x r hx hr => ?_⟩
      have hi : i < (memL m).length := by
        have := (List.getElem?_eq_some_iff.1 hr).1
        unfold chG at this
        rwa [List.length_map] at this
      obtain ⟨j, hj⟩ : ∃ j, (memL m)[i]? = some j := ⟨(memL m)[i], by simp⟩
      obtain ⟨y, rfl, hy, -⟩ := mem_lt HM.out (by rw [HNG.out]; omega) hj
      rw [HNG.out] at hy
      have e1 : x = hs.getD y (none, 0, 0) := by
        unfold chHk at hx
        rw [← HRL.out, List.take_length, List.getElem?_map, hj] at hx
        simpa using hx.symm
      have e2 : r = G.getD y [] := by
        unfold chG at hr
        rw [List.getElem?_map, hj] at hr
        simpa using hr.symm
      have := H.out.row y (hs.getD y (none, 0, 0)) (G.getD y []) (by have := HN.out; simp [show y < hs.length by omega]) (by have := HNG.out; simp [show y < G.length by omega])
      rw [e1, e2]
      exact this.keep hb

theorem cat_take (G : List (List Int)) (m k : Nat) {i : Int} (h : (memL m)[k]? = some i) : (chGk G m (k + 1)).flatten = (chGk G m k).flatten ++ G.getD i.toNat [] := by
  rw [chGk_succ h]
  simp
theorem chGk_len (G : List (List Int)) (m k : Nat) (hr : ∀ r ∈ G, r.length ≤ 100) : (chGk G m k).flatten.length ≤ k * 100 := by
  refine Nat.le_trans (cat_len _ ?_) ?_
  · intro r h
    unfold chGk at h
    obtain ⟨i, _, rfl⟩ := List.mem_map.1 h
    by_cases hi : i.toNat < G.length
    · rw [show G.getD i.toNat [] = G[i.toNat] by simp [hi]]
      exact hr _ (List.getElem_mem _)
    · simp [List.getElem?_eq_none (Nat.le_of_not_lt hi)]
  · refine Nat.mul_le_mul_right _ ?_
    unfold chGk
    rw [List.length_map, List.length_take]
    omega

set_option maxHeartbeats 2000000 in
theorem union_any {v u : Value} {hs : List Hd} {G : List (List Int)} {w : World} (h : RR w v hs G) (m : Nat) (hu : Rd eI w u (memL m)) (hl : G.length ≤ 60) (hm : m < 2 ^ G.length) (hr : ∀ r ∈ G, r.length ≤ 100) : Calls Try.prog 47 #[v, u] w (IsInts w (chG G m).flatten) := by
  obtain ⟨a, cap, rfl, hlen⟩ := h.rd.open
  obtain ⟨a2, cap2, rfl, hlen2⟩ := hu.open
  have H := Lib.hid h
  have HW := Lib.hid hu
  have HM := Lib.hid hm
  have HKL := Lib.hid (fun k => chGk_len G m k hr)
  obtain ⟨n, hn⟩ : ∃ n, hs.length = n := ⟨_, rfl⟩
  have HN := Lib.hid hn
  have HNG := Lib.hid (show G.length = n by rw [← h.len, hn])
  rw [hn] at hlen ⊢
  rw [HNG.out] at hl
  obtain ⟨r, hr⟩ : ∃ r, (memL m).length = r := ⟨_, rfl⟩
  have HRL := Lib.hid hr
  have hr63 : r ≤ 63 := by rw [← hr]; exact memL_len m
  rw [hr]
  clear h hn hm hu hr hlen2
  go_enter Try.func47, Try.ntmps47
  go_wp2_with fail
  go_loopw [5, 6] (fun x y wr => ∃ (k q : Nat) (p : Option Addr) (c : Nat), k ≤ r ∧ y = .int .i64 k ∧ x = .slice p q c ∧ Hid ((chGk G m k).flatten.length = q) ∧ Hid (Ow eI 3 w wr (.slice p q c) (chGk G m k).flatten)) (fun _ y _ => r - (intOf y).toNat)
  case atStart => exact ⟨0, 0, none, 0, by omega, rfl, rfl, Lib.hid (by simp [chGk]), Lib.hid (by simpa [chGk] using Ow.start 3 w)⟩
  case round =>
    rename World => wr
    obtain ⟨k, q, p2, c2, hk, rfl, rfl, HQ, HP⟩ := hrel
    by_cases hkr : k < r
    · obtain ⟨i, hi⟩ : ∃ i, (memL m)[k]? = some i := ⟨(memL m)[k]'(by rw [HRL.out]; exact hkr), by simp⟩
      obtain ⟨j, rfl, hj, hbit⟩ := mem_lt HM.out (by rw [HNG.out]; omega) hi
      rw [HNG.out] at hj
      have HR := HW.out.below HP.out.below (Nat.le_refl _)
      rw [HRL.out] at HR
      obtain ⟨b, off, rfl, hb, c0⟩ := HR.int (by rw [HRL.out]; exact hkr)
      rw [show (memL m).getD k 0 = (j : Int) by simp [hi]] at c0
      have HRR := H.out.below HP.out.below (Nat.le_refl _)
      have HR2 := HRR.rd
      rw [HN.out] at HR2
      obtain ⟨x, hx⟩ : ∃ x, hs[j]? = some x := ⟨hs[j]'(by rw [HN.out]; exact hj), by simp⟩
      obtain ⟨y, hy⟩ : ∃ y, G[j]? = some y := ⟨G[j]'(by rw [HNG.out]; exact hj), by simp⟩
      obtain ⟨b2, off2, rfl, hb2, c1⟩ := HR2.hd hx
      have hrow := HRR.row j x y hx hy
      obtain ⟨xa, xn, xc⟩ := x
      simp only at c1
      have HROW := Lib.hid (show Rd eI wr (.slice xa xn xc) y from hrow)
      have HXN := Lib.hid HROW.out.caps.2.2
      have HC := Lib.hid (show (chGk G m (k + 1)).flatten = (chGk G m k).flatten ++ y by rw [cat_take G m k hi, Int.toNat_natCast]; simp [hy])
      have h2 := HKL.out (k + 1)
      clear hi HR HR2 HRR hx hy hbit hrow
      go_wp2_with (first
        | (at_builtin; refine wpList_more elt31 (E := eI) (l := (chGk G m k).flatten) (m := y) _ _ rfl rfl rfl rfl HP.out HROW.out (by have h3 := congrArg List.length HC.out; rw [List.length_append] at h3; omega) ?_; intro p3 c3 w3 HO3 HG3; rw [HQ.out, ← HXN.out] at HO3 ⊢))
      go_roundw
      case rel => exact ⟨k + 1, q + xn, p3, c3, by omega, by go_num, rfl, Lib.hid (by rw [HC.out, List.length_append, HQ.out, HXN.out]), Lib.hid (by rw [HC.out]; exact HO3.out)⟩
      case measure => simp [intOf]; omega
    · obtain rfl : k = r := by omega
      have HF := Lib.hid (show (chGk G m k).flatten = (chG G m).flatten by unfold chGk chG; rw [← HRL.out, List.take_length])
      have HFL := Lib.hid (show (chG G m).flatten.length = q by rw [← HF.out]; exact HQ.out)
      rw [HF.out] at HP
      go_wp2_with fail
      go_ret
      refine ⟨p2, c2, by rw [HFL.out]; rfl, ?_⟩
      rw [HFL.out]
      exact HP.out
end Go.Proofs.Ythljjllcdocfiaa
