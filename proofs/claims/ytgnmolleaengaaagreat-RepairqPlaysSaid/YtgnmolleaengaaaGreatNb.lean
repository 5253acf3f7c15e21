/- The walks of natural: length, large, Trim, sized, Bits, Cmp. -/
import Derived.Test.YtgnmolleaengaaaGreatNa
import Derived.Test.YtgnmolleaengaaaGreatBs
import Derived.Test.YtgnmolleaengaaaGreatMx
import Derived.Lib.Hide
set_option linter.unusedVariables false
set_option linter.unusedSimpArgs false
set_option linter.unnecessarySimpa false
namespace Go.Proofs.YtgnmolleaengaaaGreat
open Go Go.RowKit

/-- limbs in memory -/
def eU : Enc Nat := ⟨1, fun x => [.int .u32 (x : Int)], fun _ => rfl, by decide, fun x v hv => by simp at hv; subst hv; rfl⟩
theorem Rd.limb {w : World} {a : Option Addr} {n cap : Nat} {l : List Nat} (h : Rd eU w (.slice a n cap) l) {i x : Nat} (hi : l[i]? = some x) :
    ∃ b off, a = some ⟨b, off, none⟩ ∧ b < w.heap.size ∧ w.cell? ⟨b, off + i, none⟩ = some (.int .u32 (x : Int)) := by
  obtain ⟨b, off, e, hb, hc⟩ := h.cell hi
  exact ⟨b, off, e, hb, by simpa [eU] using hc 0 _ rfl⟩
theorem info76 : (Tryz.prog.info? 94).map (fun i => (i.zero, i.size, i.bytes)) = some (some (.int .u32 0), 1, 4) := by kernel_rfl
theorem elt29 : Elt 25 94 1 4 := by
  obtain ⟨i, hi, hz0, hz1, hz2⟩ := info_parts info76
  exact ⟨by kernel_rfl, ⟨i, _, hi, hz0, hz1, hz2, rfl⟩, by decide, by decide⟩

theorem below_drewN {B : Nat} {w0 w : World} (h : Below B w0 w) (n : Nat) : Below B w0 (w.drewN n) := ⟨h.os, h.tape, h.output, h.size, h.block⟩

theorem length_any {w : World} {v : Value} {l : List Nat} (h : Rd eU w v l) : Calls Tryz.prog 79 #[v] w fun e w' => e = .returned (.int .i64 (clen l)) ∧ w = w' := by
  obtain ⟨a, cap, rfl, hlen⟩ := h.open
  obtain ⟨n, hn⟩ : ∃ n, n = l.length := ⟨_, rfl⟩
  rw [← hn] at h hlen ⊢
  have HR := Lib.hid h
  have HN := Lib.hid hn
  obtain ⟨c, hc⟩ : ∃ c, clen l = c := ⟨_, rfl⟩
  rw [hc]
  have HC := Lib.hid hc
  clear h hn hc
  go_enter Tryz.func79, Tryz.ntmps79
  go_wp2_with fail
  go_loop [3] (fun i => ∃ k : Nat, k ≤ n ∧ i = .int .i64 k ∧ Hid (∀ j x, k ≤ j → l[j]? = some x → x = 0)) (fun i => (intOf i).toNat)
  case atStart => exact ⟨n, Nat.le_refl _, rfl, fun j x hj hx => by have := (List.getElem?_eq_some_iff.1 hx).1; have := HN.out; omega⟩
  case round =>
    obtain ⟨k, hk, rfl, HP⟩ := hrel
    cases k with
    | zero =>
      go_wp2_with fail
      go_ret
      exact ⟨by rw [← HC.out, clen_eq l 0 (Nat.zero_le _) (fun j x hj hx => HP.out j x hj hx) (.inl rfl)]; rfl, rfl⟩
    | succ k =>
      obtain ⟨x, hx⟩ : ∃ x, l[k]? = some x := ⟨l[k]'(by have := HN.out; omega), by simp⟩
      obtain ⟨b, off, rfl, hb, hcell⟩ := HR.out.limb hx
      have HX := Lib.hid hx
      clear hx
      by_cases h0 : x = 0
      · have q : ((x : Int) == 0) = true := by simp [h0]
        go_wp2_with fail
        go_round
        case rel =>
          refine ⟨k, by omega, by go_num, fun j y hj hy => ?_⟩
          by_cases e : k + 1 ≤ j
          · exact HP.out j y e hy
          · obtain rfl : j = k := by omega
            have := HX.out
            rw [hy] at this
            cases this
            exact h0
        case measure => simp [intOf]
      · have q : ((x : Int) == 0) = false := by simpa using h0
        go_wp2_with fail
        go_ret
        exact ⟨by rw [← HC.out, clen_eq l (k + 1) (by have := HN.out; omega) (fun j x hj hx => HP.out j x hj hx) (.inr ⟨x, by simpa using HX.out, h0⟩)]; exact ret_int (a := (k : Int) + 1) (by simp), rfl⟩
theorem length_as {w : World} {v : Value} {l : List Nat} (h : Rd eU w v l) {c : Nat} (hc : clen l = c) : Calls Tryz.prog 79 #[v] w fun e w' => e = .returned (.int .i64 c) ∧ w = w' := hc ▸ length_any h
theorem large_as {w : World} {v : Value} {l : List Nat} (h : Rd eU w v l) (hl : clen l ≤ 512) : Calls Tryz.prog 98 #[v] w fun e w' => e = .returned (.bool false) ∧ w = w' := by
  have HR := Lib.hid h
  obtain ⟨c, hc⟩ : ∃ c, clen l = c := ⟨_, rfl⟩
  rw [hc] at hl
  have HC := Lib.hid hc
  have q : decide ((512 : Int) < (c : Int)) = false := by simp; omega
  clear h hc
  go_enter Tryz.func98, Tryz.ntmps98
  go_wp2_with (go_at_call 79; (with_reducible refine (length_as HR.out HC.out).mono ?_); rintro e w1 ⟨rfl, rfl⟩)
  go_ret
  exact ⟨rfl, rfl⟩

/-- a slice cut to its first limbs -/
theorem Rd.cut {w : World} {a : Option Addr} {n cap : Nat} {l : List Nat} (h : Rd eU w (.slice a n cap) l) {c : Nat} (hc : clen l = c) (cap' : Nat) (h1 : c ≤ cap') (h2 : cap' ≤ 9223372036854775807) : Rd eU w (.slice a c cap') (trim l) := by
  obtain ⟨a', cap2, e, hl, h⟩ := h
  cases e
  refine ⟨a, cap', by rw [trim_len, hc], ⟨by rw [trim_len, hc]; exact h1, h2⟩, ?_⟩
  rcases h with h | ⟨b, off, rfl, hlt, hcell⟩
  · subst h; exact .inl rfl
  · refine .inr ⟨b, off, rfl, hlt, fun j u hu => hcell j u ?_⟩
    unfold trim at hu
    rw [flat_take, List.getElem?_take] at hu
    split at hu
    · exact hu
    · cases hu

theorem trim_any {w : World} {v : Value} {l : List Nat} (h : Rd eU w v l) (hl : clen l ≤ 5000) : Calls Tryz.prog 77 #[v] w fun e w' => ∃ u, e = .returned u ∧ Ow eU 94 w w' u (trim l) := by
  have HR := Lib.hid h
  obtain ⟨a, cap, rfl, hlen⟩ := h.open
  obtain ⟨c, hc⟩ : ∃ c, clen l = c := ⟨_, rfl⟩
  have hcl := clen_le l
  obtain ⟨n, hn⟩ : ∃ n, l.length = n := ⟨_, rfl⟩
  rw [hc] at hl hcl
  rw [hn] at h hlen hcl HR ⊢
  obtain ⟨k1, k2, -⟩ := h.caps
  have HC := Lib.hid hc
  have HS := Lib.hid (h.cut hc cap (by omega) k2)
  have hc2 : c ≤ cap := by omega
  have q1 : (c : Int) ≤ (cap : Int) := by omega
  have HZ := Lib.hid (show ([] : List Nat).length + (trim l).length ≤ 10000 by rw [trim_len, hc]; simp; omega)
  clear h hc k1 hn
  go_enter Tryz.func77, Tryz.ntmps77
  go_wp2_with (first
    | (go_at_call 79; (with_reducible refine (length_as HR.out HC.out).mono ?_); rintro e w1 ⟨rfl, rfl⟩)
    | (at_builtin; refine wpList_more elt29 _ _ rfl rfl rfl rfl (Ow.start 94 _) HS.out HZ.out ?_; intro p cp w2 HO HG))
  go_ret
  have hO := HO.out
  simp only [List.nil_append, List.length_nil, Nat.zero_add] at hO
  exact ⟨_, rfl, hO⟩

theorem sized_any {w : World} {v : Value} {l : List Nat} (h : Rd eU w v l) (hl : clen l ≤ 512) : Calls Tryz.prog 100 #[v] w fun e w' => ∃ u, e = .returned (.tuple #[u, .int .i64 0]) ∧ Rd eU w u (trim l) ∧ w = w' := by
  have HR := Lib.hid h
  obtain ⟨a, cap, rfl, hlen⟩ := h.open
  obtain ⟨c, hc⟩ : ∃ c, clen l = c := ⟨_, rfl⟩
  have hcl := clen_le l
  obtain ⟨n, hn⟩ : ∃ n, l.length = n := ⟨_, rfl⟩
  rw [hc] at hl hcl
  rw [hn] at h hlen hcl HR ⊢
  obtain ⟨k1, k2, -⟩ := h.caps
  have HC := Lib.hid hc
  have HS := Lib.hid (h.cut hc c (Nat.le_refl _) (by omega))
  have hc2 : c ≤ cap := by omega
  have q1 : (c : Int) ≤ (cap : Int) := by omega
  have q : decide ((512 : Int) < (c : Int)) = false := by simp; omega
  clear h hc k1 hn
  go_enter Tryz.func100, Tryz.ntmps100
  go_wp2_with (first
    | (go_at_call 79; (with_reducible refine (length_as HR.out HC.out).mono ?_); rintro e w1 ⟨rfl, rfl⟩))
  go_ret2
  exact ⟨_, rfl, HS.out, rfl⟩

theorem cmp_any {w : World} {v u : Value} {l m : List Nat} (h : Rd eU w v l) (h2 : Rd eU w u m) (hl : clen l ≤ 5000) (hm : clen m ≤ 5000) : Calls Tryz.prog 55 #[v, u] w fun e w' => e = .returned (.int .i64 (cmpN l m)) ∧ Below w.heap.size w w' := by
  have HR := Lib.hid h
  have HR2 := Lib.hid h2
  obtain ⟨a, cap, rfl, hlen⟩ := h.open
  obtain ⟨a2, cap2, rfl, hlen2⟩ := h2.open
  obtain ⟨n, hn⟩ : ∃ n, l.length = n := ⟨_, rfl⟩
  obtain ⟨n2, hn2⟩ : ∃ n, m.length = n := ⟨_, rfl⟩
  rw [hn] at h hlen HR ⊢
  rw [hn2] at h2 hlen2 HR2 ⊢
  obtain ⟨c, hc⟩ : ∃ c, clen l = c := ⟨_, rfl⟩
  obtain ⟨d, hd⟩ : ∃ c, clen m = c := ⟨_, rfl⟩
  have hcn := clen_le l
  have hdn := clen_le m
  rw [hc, hn] at hcn
  rw [hd, hn2] at hdn
  rw [hc] at hl
  rw [hd] at hm
  obtain ⟨r, hr⟩ : ∃ r, cmpN l m = r := ⟨_, rfl⟩
  rw [hr]
  have HRR := Lib.hid (show (if c < d then -1 else if d < c then 1 else cmpAt l m c) = r by rw [← hr, ← hc, ← hd]; rfl)
  have HC := Lib.hid hc
  have HD := Lib.hid hd
  have HN := Lib.hid hn
  have HN2 := Lib.hid hn2
  clear h h2 hn hn2 hc hd hr
  by_cases h1 : c < d
  · have q : decide ((c : Int) < (d : Int)) = true := by simp; omega
    go_enter Tryz.func55, Tryz.ntmps55
    go_wp2_with (first
      | (go_at_call 79; (with_reducible refine (length_as HR.out HC.out).mono ?_); rintro e w1 ⟨rfl, rfl⟩)
      | (go_at_call 79; (with_reducible refine (length_as HR2.out HD.out).mono ?_); rintro e w1 ⟨rfl, rfl⟩))
    go_ret
    exact ⟨by rw [← HRR.out, if_pos h1]; rfl, Below.refl _ _⟩
  have q1 : decide ((c : Int) < (d : Int)) = false := by simp; omega
  by_cases h3 : d < c
  · have q : decide ((d : Int) < (c : Int)) = true := by simp; omega
    go_enter Tryz.func55, Tryz.ntmps55
    go_wp2_with (first
      | (go_at_call 79; (with_reducible refine (length_as HR.out HC.out).mono ?_); rintro e w1 ⟨rfl, rfl⟩)
      | (go_at_call 79; (with_reducible refine (length_as HR2.out HD.out).mono ?_); rintro e w1 ⟨rfl, rfl⟩))
    go_ret
    exact ⟨by rw [← HRR.out, if_neg h1, if_pos h3]; rfl, Below.refl _ _⟩
  obtain rfl : c = d := by omega
  have HQ := Lib.hid (show cmpAt l m c = r by have := HRR.out; rw [if_neg h1, if_neg h3] at this; exact this)
  clear HRR h1 h3 q1
  have qd : decide ((c : Int) < (c : Int)) = false := by simp
  go_enter Tryz.func55, Tryz.ntmps55
  go_wp2_with (first
    | (go_at_call 79; (with_reducible refine (length_as HR.out HC.out).mono ?_); rintro e w1 ⟨rfl, rfl⟩)
    | (go_at_call 79; (with_reducible refine (length_as HR2.out HD.out).mono ?_); rintro e w1 ⟨rfl, rfl⟩))
  go_loopw [7] (fun s wr => ∃ (k q : Nat), k ≤ c ∧ s = .int .i64 ((k : Int) - 1) ∧ wr = w.drewN q ∧ Hid (cmpAt l m k = r)) (fun s _ => (intOf s + 1).toNat)
  case atStart => exact ⟨c, 0, Nat.le_refl _, rfl, rfl, HQ⟩
  case round =>
    obtain ⟨k, q, hk, rfl, rfl, HK⟩ := hrel
    cases k with
    | zero =>
      go_wp2_with fail
      go_ret
      exact ⟨by rw [← HK.out]; rfl, below_drewN (Below.refl _ _) _⟩
    | succ k =>
      obtain ⟨x, hx⟩ : ∃ x, l[k]? = some x := ⟨l[k]'(by have := HN.out; omega), by simp⟩
      obtain ⟨y, hy⟩ : ∃ x, m[k]? = some x := ⟨m[k]'(by have := HN2.out; omega), by simp⟩
      obtain ⟨b, off, rfl, hb, hcell⟩ := HR.out.limb hx
      obtain ⟨b2, off2, rfl, hb2, hcell2⟩ := HR2.out.limb hy
      have HK2 := Lib.hid (show (if x < y then -1 else if y < x then 1 else cmpAt l m k) = r by have := HK.out; rw [cmpAt] at this; simpa [List.getD_eq_getElem?_getD, hx, hy] using this)
      have hkk : ((k + 1 : Nat) : Int) - 1 = (k : Int) := by omega
      rw [hkk]
      have h0 : decide ((0 : Int) ≤ (k : Int)) = true := by simp
      clear hx hy hkk HK
      by_cases e1 : x < y
      · have t1 : decide ((x : Int) < (y : Int)) = true := by simp; omega
        go_wp2_with fail
        go_quiet (fail)
        go_wp2_with fail
        go_ret
        exact ⟨by rw [← HK2.out, if_pos e1]; rfl, below_drewN (below_drewN (Below.refl _ _) _) _⟩
      have t1 : decide ((x : Int) < (y : Int)) = false := by simp; omega
      by_cases e2 : y < x
      · have t2 : decide ((y : Int) < (x : Int)) = true := by simp; omega
        go_wp2_with fail
        go_quiet (fail)
        go_wp2_with fail
        go_quiet (fail)
        go_wp2_with fail
        go_ret
        exact ⟨by rw [← HK2.out, if_neg e1, if_pos e2]; rfl, below_drewN (below_drewN (below_drewN (Below.refl _ _) _) _) _⟩
      · have t2 : decide ((y : Int) < (x : Int)) = false := by simp; omega
        go_wp2_with fail
        go_quiet (fail)
        go_wp2_with fail
        go_quiet (fail)
        go_wp2_with fail
        go_roundw
        case rel => exact ⟨k, _, by omega, by go_num, rfl, Lib.hid (by rw [← HK2.out, if_neg e1, if_neg e2])⟩
        case measure => simp [intOf]
end Go.Proofs.YtgnmolleaengaaaGreat
