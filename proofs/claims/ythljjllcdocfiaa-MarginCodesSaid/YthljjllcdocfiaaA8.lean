/- Walks: the chosen elements of a list: pick, Chosen. -/
import Derived.Test.YthljjllcdocfiaaA7
set_option linter.unusedVariables false
set_option linter.unusedSimpArgs false
set_option linter.unnecessarySimpa false
namespace Go.Proofs.Ythljjllcdocfiaa
open Go Go.RowKit Go.MapKept

/-- the first elements at the bits of a mask -/
def chK (d : List Int) (m k : Nat) : List Int := ((List.range k).filter m.testBit).map fun i => d.getD i 0
/-- the elements of a list that a mask names -/
def chL (d : List Int) (m : Nat) : List Int := chK d m d.length
theorem chK_succ (d : List Int) (m k : Nat) : chK d m (k + 1) = chK d m k ++ if m.testBit k then [d.getD k 0] else [] := by
  unfold chK
  rw [List.range_succ, List.filter_append, List.map_append]
  cases h : m.testBit k <;> simp [h]
theorem chK_len (d : List Int) (m k : Nat) : (chK d m k).length ≤ k := by
  unfold chK
  rw [List.length_map]
  have := List.length_filter_le m.testBit (List.range k)
  simpa using this
theorem bit_lt {m n i : Nat} (hm : m < 2 ^ n) (h : m.testBit i = true) : i < n := by
  rcases Nat.lt_or_ge i n with q | q
  · exact q
  · rw [Nat.testBit_lt_two_pow (Nat.lt_of_lt_of_le hm (Nat.pow_le_pow_right (by decide) q))] at h
    cases h
theorem mem_bits {m n : Nat} (hm : m < 2 ^ n) (hn : n ≤ 63) : memL m = ((List.range n).filter m.testBit).map fun i : Nat => (i : Int) := by
  unfold memL
  congr 1
  obtain ⟨r, hr⟩ : ∃ r, 63 = n + r := ⟨63 - n, by omega⟩
  rw [hr, List.range_add, List.filter_append]
  have e : ((List.range r).map (n + ·)).filter m.testBit = [] := by
    rw [List.filter_eq_nil_iff]
    intro f hf h
    simp at hf
    obtain ⟨x, _, rfl⟩ := hf
    have := bit_lt hm h
    omega
  rw [e, List.append_nil]
def pkK (d : List Int) (m k : Nat) : List Int := ((memL m).take k).map fun i => d.getD i.toNat 0
theorem pk_all {d : List Int} {m : Nat} (hm : m < 2 ^ d.length) (hn : d.length ≤ 63) : pkK d m (memL m).length = chL d m := by
  unfold pkK chL chK
  rw [List.take_length, mem_bits hm hn, List.map_map]
  rfl
theorem pk_succ {d : List Int} {m k : Nat} {i : Int} (h : (memL m)[k]? = some i) : pkK d m (k + 1) = pkK d m k ++ [d.getD i.toNat 0] := by
  unfold pkK
  rw [List.take_add_one, h]
  simp
theorem pk_len (d : List Int) (m k : Nat) : (pkK d m k).length ≤ k := by
  unfold pkK
  rw [List.length_map, List.length_take]
  omega
theorem mem_lt {m n k : Nat} {i : Int} (hm : m < 2 ^ n) (hn : n ≤ 63) (h : (memL m)[k]? = some i) : ∃ j : Nat, i = j ∧ j < n ∧ m.testBit j = true := by
  rw [mem_bits hm hn] at h
  obtain ⟨j, hj, rfl⟩ := List.mem_map.1 (List.mem_of_getElem? h)
  simp at hj
  exact ⟨j, rfl, hj.1, hj.2⟩
theorem memL_len (m : Nat) : (memL m).length ≤ 63 := memK_len m 63

set_option maxHeartbeats 2000000 in
theorem pick_any (v : Value) (d : List Int) (m : Nat) (w : World) (h : Rd eI w v d) (hd : d.length ≤ 60) (hm : m < 2 ^ d.length) : Calls Try.prog 37 #[v, .int .i64 m] w (IsInts w (chL d m)) := by
  obtain ⟨a, cap, rfl, hlen⟩ := h.open
  have H := Lib.hid h
  have HE := Lib.hid (pk_all hm (by omega))
  have HM := Lib.hid hm
  have hmb : m < 4611686018427387904 := by
    have : 2 ^ d.length ≤ 2 ^ 60 := Nat.pow_le_pow_right (by decide) hd
    have e : (2 : Nat) ^ 60 = 1152921504606846976 := by decide
    omega
  obtain ⟨n, hn⟩ : ∃ n, d.length = n := ⟨_, rfl⟩
  have HN := Lib.hid hn
  rw [hn] at hlen hd ⊢
  clear h hn hm
  go_enter Try.func37, Try.ntmps37
  go_wp2_with (first
    | (go_at_call 31; (with_reducible refine (members_any _ hmb _).mono ?_); rintro e w1 ⟨p, c, rfl, ho⟩; have HO := Lib.hid ho; have HW := Lib.hid (ho.rd (by have := memL_len m; omega)); clear ho))
  obtain ⟨r, hr⟩ : ∃ r, (memL m).length = r := ⟨_, rfl⟩
  have HRL := Lib.hid hr
  have hr63 : r ≤ 63 := by rw [← hr]; exact memL_len m
  rw [hr]
  clear hr
  go_loopw [5, 11] (fun x y wr => ∃ (k : Nat) (p : Option Addr) (c : Nat), k ≤ r ∧ y = .int .i64 k ∧ x = .slice p (pkK d m k).length c ∧ Hid (Ow eI 3 w1 wr (.slice p (pkK d m k).length c) (pkK d m k))) (fun _ y _ => r - (intOf y).toNat)
  case atStart => exact ⟨0, none, 0, by omega, rfl, rfl, Lib.hid (Ow.start 3 w1)⟩
  case round =>
    rename World => wr
    obtain ⟨k, p2, c2, hk, rfl, rfl, HP⟩ := hrel
    by_cases hkr : k < r
    · obtain ⟨i, hi⟩ : ∃ i, (memL m)[k]? = some i := ⟨(memL m)[k]'(by rw [HRL.out]; exact hkr), by simp⟩
      obtain ⟨j, rfl, hj, hbit⟩ := mem_lt HM.out (by rw [HN.out]; omega) hi
      have HR := HW.out.below HP.out.below (Nat.le_refl _)
      rw [HRL.out] at HR
      obtain ⟨b, off, rfl, hb, c0⟩ := HR.int (by rw [HRL.out]; exact hkr)
      rw [show (memL m).getD k 0 = (j : Int) by simp [hi]] at c0
      have HR2 := (H.out.below HO.out.below (Nat.le_refl _)).below HP.out.below (Nat.le_refl _)
      rw [HN.out] at HR2
      obtain ⟨b2, off2, rfl, hb2, c1⟩ := HR2.int hj
      have HS := Lib.hid (pk_succ (d := d) hi)
      have HL := Lib.hid (pk_len d m k)
      rw [HN.out] at hj
      obtain ⟨z, hz⟩ : ∃ z, d.getD j 0 = z := ⟨_, rfl⟩
      rw [hz] at c1
      have HS2 := Lib.hid (show pkK d m (k + 1) = pkK d m k ++ [z] by rw [HS.out, ← hz]; rfl)
      have HE2 := Lib.hid (show (pkK d m (k + 1)).length = (pkK d m k).length + 1 by rw [HS2.out]; simp)
      clear hi HR HR2 hz hbit
      go_wp2_with (first
        | (at_builtin; refine wpList_push elt31 (E := eI) (x := z) _ _ rfl rfl rfl rfl rfl HP.out (by have := HL.out; omega) ?_; intro p3 c3 w3 HO3 HG3))
      go_roundw
      case rel => exact ⟨k + 1, p3, c3, by omega, by go_num, by rw [HE2.out], Lib.hid (by rw [HE2.out, HS2.out]; exact HO3.out)⟩
      case measure => simp [intOf]; omega
    · obtain rfl : k = r := by omega
      have HF := Lib.hid (show pkK d m k = chL d m by rw [← HRL.out]; exact HE.out)
      rw [HF.out] at HP ⊢
      go_wp2_with fail
      go_ret
      exact ⟨p2, c2, rfl, HP.out.down HO.out.below⟩

set_option maxHeartbeats 2000000 in
theorem chosen_any (v : Value) (d : List Int) (m : Nat) (w : World) (h : Rd eI w v d) (hd : d.length ≤ 60) : Calls Try.prog 41 #[v, .int .i64 m] w (IsInts w (chL d m)) := by
  obtain ⟨a, cap, rfl, hlen⟩ := h.open
  have H := Lib.hid h
  obtain ⟨n, hn⟩ : ∃ n, d.length = n := ⟨_, rfl⟩
  have HN := Lib.hid hn
  rw [hn] at hlen hd ⊢
  clear h hn
  go_enter Try.func41, Try.ntmps41
  go_wp2_with fail
  go_loopw [5, 6] (fun x y wr => ∃ (k : Nat) (p : Option Addr) (c : Nat), k ≤ n ∧ y = .int .i64 k ∧ x = .slice p (chK d m k).length c ∧ Hid (Ow eI 3 w wr (.slice p (chK d m k).length c) (chK d m k))) (fun _ y _ => n - (intOf y).toNat)
  case atStart => exact ⟨0, none, 0, by omega, rfl, rfl, Lib.hid (Ow.start 3 w)⟩
  case round =>
    rename World => wr
    obtain ⟨k, p, c, hk, rfl, rfl, HO⟩ := hrel
    by_cases hkn : k < n
    · have hb := bit_test (m : Int) k
      rw [bitI_nat] at hb
      have HR := H.out.below HO.out.below (Nat.le_refl _)
      rw [HN.out] at HR
      obtain ⟨b2, off2, rfl, hb2, c1⟩ := HR.int (by rw [HN.out]; exact hkn)
      have HL := Lib.hid (chK_len d m k)
      have HS := Lib.hid (chK_succ d m k)
      obtain ⟨z, hz⟩ : ∃ z, d.getD k 0 = z := ⟨_, rfl⟩
      rw [hz] at c1 HS
      obtain ⟨y, hy⟩ : ∃ y, m.testBit k = y := ⟨_, rfl⟩
      rw [hy] at hb
      have HY := Lib.hid hy
      clear hy hz HR
      cases y with
      | false =>
        have HE := Lib.hid (show chK d m (k + 1) = chK d m k by rw [HS.out, HY.out]; simp)
        go_wp2_with fail
        go_roundw
        case rel => exact ⟨k + 1, p, c, by omega, by go_num, by rw [HE.out], Lib.hid (by rw [HE.out]; exact HO.out)⟩
        case measure => simp [intOf]; omega
      | true =>
        have HE := Lib.hid (show chK d m (k + 1) = chK d m k ++ [z] by rw [HS.out, HY.out]; simp)
        have HE2 := Lib.hid (show (chK d m (k + 1)).length = (chK d m k).length + 1 by rw [HE.out]; simp)
        go_wp2_with (first
          | (at_builtin; refine wpList_push elt31 (E := eI) (x := z) _ _ rfl rfl rfl rfl rfl HO.out (by have := HL.out; omega) ?_; intro p2 c2 w2 HO2 HG2))
        go_roundw
        case rel => exact ⟨k + 1, p2, c2, by omega, by go_num, by rw [HE2.out], Lib.hid (by rw [HE2.out, HE.out]; exact HO2.out)⟩
        case measure => simp [intOf]; omega
    · obtain rfl : k = n := by omega
      have HE := Lib.hid (show chK d m k = chL d m by rw [← HN.out]; rfl)
      rw [HE.out] at HO ⊢
      go_wp2_with fail
      go_ret
      exact ⟨p, c, rfl, HO.out⟩
end Go.Proofs.Ythljjllcdocfiaa
