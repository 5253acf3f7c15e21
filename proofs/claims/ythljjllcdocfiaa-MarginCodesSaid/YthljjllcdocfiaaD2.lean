/- Walks: Grow, Concat, Union, pick of slices. -/
import Derived.Test.YthljjllcdocfiaaD1
set_option linter.unusedVariables false
set_option linter.unusedSimpArgs false
set_option linter.unnecessarySimpa false
namespace Go.Proofs.Ythljjllcdocfiaa
open Go Go.RowKit Go.MapKept

set_option maxHeartbeats 2000000 in
theorem grow_any (n : Nat) (hn : n ≤ 10000) (w : World) : Calls Try.prog 56 #[.slice none 0 0, .int .i64 n] w fun e w' => ∃ p cap, e = .returned (.slice p 0 cap) ∧ Ow eI 3 w w' (.slice p 0 cap) [] := by
  by_cases h0 : 0 < n
  · have hp : (0 : Int) < n := by omega
    have hnn : ¬ (n : Int) < 0 := by omega
    obtain ⟨g, cap, w1, hr, ho⟩ := zeros_run w n h0 hn 31
    have HO := Lib.hid ho
    have hcap := HO.out.cap
    have hc1 := hcap.1
    have hc2 := hcap.2.1
    clear hcap ho
    go_enter Try.func56, Try.ntmps56
    go_wp2_with (first
      | (at_builtin; refine Lib.wpList_append_run _ rfl _ _ 31 3 rfl _ _ rfl rfl _ _ hr ?_))
    go_ret
    refine ⟨some ⟨g, 0, none⟩, cap, rfl, ?_⟩
    have := HO.out.shrink (k := 0) (Nat.zero_le _)
    simpa using this
  · obtain rfl : n = 0 := by omega
    go_enter Try.func56, Try.ntmps56
    go_wp2_with fail
    go_ret
    exact ⟨none, 0, rfl, Ow.start 3 w⟩

def lenK (G : List (List Int)) (k : Nat) : Nat := (G.take k).flatten.length
theorem lenK_succ {G : List (List Int)} {k : Nat} {r : List Int} (h : G[k]? = some r) : lenK G (k + 1) = lenK G k + r.length := by
  unfold lenK
  rw [List.take_add_one, h]
  simp
theorem catK_succ {G : List (List Int)} {k : Nat} {r : List Int} (h : G[k]? = some r) : (G.take (k + 1)).flatten = (G.take k).flatten ++ r := by
  rw [List.take_add_one, h]
  simp
theorem cat_len (G : List (List Int)) (hr : ∀ r ∈ G, r.length ≤ 100) : G.flatten.length ≤ G.length * 100 := by
  induction G with
  | nil => simp
  | cons r G ih =>
    have h1 := hr r (List.mem_cons_self)
    have h2 := ih (fun q hq => hr q (List.mem_cons_of_mem _ hq))
    rw [List.flatten_cons, List.length_append, List.length_cons]
    omega
theorem lenK_le (G : List (List Int)) (hr : ∀ r ∈ G, r.length ≤ 100) (hl : G.length ≤ 60) (k : Nat) : lenK G k ≤ 6000 := by
  have h1 := cat_len (G.take k) (fun r h => hr r (List.mem_of_mem_take h))
  rw [List.length_take] at h1
  unfold lenK
  have : min k G.length * 100 ≤ 6000 := by omega
  omega

set_option maxHeartbeats 4000000 in
theorem concat_any {v : Value} {hs : List Hd} {G : List (List Int)} {w : World} (h : RR w v hs G) (hl : G.length ≤ 60) (hr : ∀ r ∈ G, r.length ≤ 100) : Calls Try.prog 45 #[v] w (IsInts w G.flatten) := by
  obtain ⟨a, cap, rfl, hlen⟩ := h.rd.open
  have H := Lib.hid h
  have HL := Lib.hid (lenK_le G hr hl)
  obtain ⟨n, hn⟩ : ∃ n, hs.length = n := ⟨_, rfl⟩
  have HN := Lib.hid hn
  have HNG := Lib.hid (show G.length = n by rw [← h.len, hn])
  rw [hn] at hlen ⊢
  have hn60 : n ≤ 60 := by have := HNG.out; omega
  have HI := Lib.hid (show ∀ i, i < n → ∃ x r, hs[i]? = some x ∧ G[i]? = some r from fun i hi => ⟨hs[i]'(by omega), G[i]'(by have := HNG.out; omega), by simp, by simp⟩)
  clear h hn hr hl
  go_enter Try.func45, Try.ntmps45
  go_wp2_with fail
  go_loop [3, 11] (fun x y => ∃ k : Nat, k ≤ n ∧ y = .int .i64 k ∧ x = .int .i64 (lenK G k)) (fun _ y => n - (intOf y).toNat)
  case atStart => exact ⟨0, by omega, rfl, rfl⟩
  case round =>
    obtain ⟨k, hk, rfl, rfl⟩ := hrel
    by_cases hkn : k < n
    · obtain ⟨x, r, hx, hr⟩ := HI.out k hkn
      have HR := H.out.rd
      rw [HN.out] at HR
      obtain ⟨b, off, rfl, hb, c0⟩ := HR.hd hx
      have hrow := H.out.row k x r hx hr
      obtain ⟨xa, xn, xc⟩ := x
      simp only at c0
      obtain ⟨-, -, hxn⟩ := (show Rd eI w (.slice xa xn xc) r from hrow).caps
      have HS := Lib.hid (lenK_succ hr)
      have h1 := HL.out k
      have h2 := HL.out (k + 1)
      have h3 := HS.out
      have HXN := Lib.hid hxn
      have hle : 0 ≤ (lenK G k : Int) + (xn : Int) ∧ (lenK G k : Int) + xn ≤ 6000 := by omega
      obtain ⟨hle1, hle2⟩ := hle
      have hng : ¬ ((lenK G k : Int) + (xn : Int) < 0) := by omega
      clear hx hr hrow HR h1 h2 h3 hxn
      generalize hq : lenK G k = q at *
      go_wp2_with fail
      go_round
      case rel => exact ⟨k + 1, by omega, by go_num, by rw [HS.out, HXN.out]; simp⟩
      case measure => simp [intOf]; omega
    · obtain rfl : k = n := by omega
      have h6 := HL.out k
      have KG := fun w => Lib.hid (grow_any (lenK G k) (by omega) w)
      generalize lenK G k = q at *
      go_wp2_with (first
        | (go_at_call 56; (with_reducible refine (KG _).out.mono ?_); rintro e w1 ⟨p, cap2, rfl, ho⟩; have HO := Lib.hid ho; clear ho))
      go_loopw [6, 27] (fun x y wr => ∃ (i m : Nat) (p2 : Option Addr) (c2 : Nat), i ≤ k ∧ y = .int .i64 i ∧ x = .slice p2 m c2 ∧ Hid (lenK G i = m) ∧ Hid (Ow eI 3 w wr (.slice p2 m c2) (G.take i).flatten)) (fun _ y _ => k - (intOf y).toNat)
      case atStart => exact ⟨0, 0, p, cap2, by omega, rfl, rfl, Lib.hid rfl, HO⟩
      case round =>
        rename World => wr
        obtain ⟨i, m, p2, c2, hi, rfl, rfl, HM, HW⟩ := hrel
        by_cases hik : i < k
        · obtain ⟨x, r, hx, hr⟩ := HI.out i hik
          have HR := H.out.below HW.out.below (Nat.le_refl _)
          have HRR := HR.rd
          rw [HN.out] at HRR
          obtain ⟨b, off, rfl, hb, c0⟩ := HRR.hd hx
          have hrow := HR.row i x r hx hr
          obtain ⟨xa, xn, xc⟩ := x
          simp only at c0
          have HROW := Lib.hid (show Rd eI wr (.slice xa xn xc) r from hrow)
          have HXN := Lib.hid HROW.out.caps.2.2
          have HS := Lib.hid (lenK_succ hr)
          have HC := Lib.hid (catK_succ hr)
          have h2 := HL.out (i + 1)
          have HF := Lib.hid (show (G.take i).flatten.length = m from HM.out)
          clear hx hr hrow HR HRR
          go_wp2_with (first
            | (at_builtin; refine wpList_more elt31 (E := eI) (l := (G.take i).flatten) (m := r) _ _ rfl rfl rfl rfl HW.out HROW.out (by have := HS.out; have := HF.out; have := HM.out; omega) ?_; intro p3 c3 w3 HO3 HG3; rw [HF.out, ← HXN.out] at HO3 ⊢))
          go_roundw
          case rel => exact ⟨i + 1, m + xn, p3, c3, by omega, by go_num, rfl, Lib.hid (by rw [HS.out, HM.out, HXN.out]), Lib.hid (by rw [HC.out]; exact HO3.out)⟩
          case measure => simp [intOf]; omega
        · obtain rfl : i = k := by omega
          have HF := Lib.hid (show (G.take i).flatten = G.flatten by rw [← HNG.out, List.take_length])
          have HFL := Lib.hid (show G.flatten.length = m by rw [← HF.out]; exact HM.out)
          rw [HF.out] at HW
          go_wp2_with fail
          go_ret
          refine ⟨p2, c2, by rw [HFL.out]; rfl, ?_⟩
          rw [HFL.out]
          exact HW.out
end Go.Proofs.Ythljjllcdocfiaa
