/- The walks of fraction.Valid, zero, times and Cmp. -/
import Derived.Test.YtgnmolleaengaaaGreatNe
import Derived.Test.YtgnmolleaengaaaGreatLy
set_option linter.unusedVariables false
set_option linter.unusedSimpArgs false
set_option linter.unnecessarySimpa false
namespace Go.Proofs.YtgnmolleaengaaaGreat
open Go Go.RowKit

def validQ (N D : List Nat) : Bool := decide (0 < clen D) && decide (clen D ≤ 128) && decide (clen N ≤ 128)

set_option maxHeartbeats 1000000 in
theorem fvalid_any {w : World} {neg : Bool} {a a2 : Option Addr} {n n2 c c2 : Nat} {N D : List Nat} (h : Rd eU w (.slice a n c) N) (h2 : Rd eU w (.slice a2 n2 c2) D) (hN : Lims N) (hD : Lims D) (hn : clen N ≤ 5000) (hd : clen D ≤ 5000) :
    Calls Tryz.prog 54 #[fv neg (.slice a n c) (.slice a2 n2 c2)] w fun e w' => e = .returned (.bool (validQ N D)) ∧ Below w.heap.size w w' := by
  have hba := below_alloc w (.cells #[.bool neg, .slice a n c, .slice a2 n2 c2] 27)
  have HBA := Lib.hid hba
  have HR := Lib.hid (h.keep hba)
  have HR2 := Lib.hid (h2.keep hba)
  have HL := Lib.hid hN
  have HL2 := Lib.hid hD
  have HK := Lib.hid hn
  have HK2 := Lib.hid hd
  obtain ⟨x, hx⟩ : ∃ x, bitsN N = x := ⟨_, rfl⟩
  obtain ⟨y, hy⟩ : ∃ x, bitsN D = x := ⟨_, rfl⟩
  have f1 := bitsN_facts hN
  have f2 := bitsN_facts hD
  rw [hx] at f1
  rw [hy] at f2
  have HX := Lib.hid hx
  have HY := Lib.hid hy
  obtain ⟨r, hr⟩ : ∃ r, validQ N D = r := ⟨_, rfl⟩
  rw [hr]
  have HRR := Lib.hid (show (decide (0 < y) && decide (y ≤ 4096) && decide (x ≤ 4096)) = r by
    rw [← hr]; unfold validQ
    rw [decide_eq_decide.2 f2.1, decide_eq_decide.2 f2.2, decide_eq_decide.2 f1.2])
  clear h h2 hN hD hn hd hba hx hy f1 f2 hr
  by_cases h1 : 0 < y
  · have q1 : decide ((0 : Int) < (y : Int)) = true := by simp; omega
    by_cases h2 : y ≤ 4096
    · have q2 : decide ((y : Int) ≤ 4096) = true := by simp; omega
      by_cases h3 : x ≤ 4096
      · have q3 : decide ((x : Int) ≤ 4096) = true := by simp; omega
        go_enter Tryz.func54, Tryz.ntmps54
        go_wp2_with (first
          | (go_at_call 75; (with_reducible refine (bits_as HR2.out HL2.out HK2.out HY.out).mono ?_); rintro e w1 ⟨rfl, rfl⟩)
          | (go_at_call 75; (with_reducible refine (bits_as HR.out HL.out HK.out HX.out).mono ?_); rintro e w1 ⟨rfl, rfl⟩))
        go_ret
        exact ⟨by rw [← HRR.out]; simp [h1, h2, h3], HBA.out⟩
      · have q3 : decide ((x : Int) ≤ 4096) = false := by simp; omega
        go_enter Tryz.func54, Tryz.ntmps54
        go_wp2_with (first
          | (go_at_call 75; (with_reducible refine (bits_as HR2.out HL2.out HK2.out HY.out).mono ?_); rintro e w1 ⟨rfl, rfl⟩)
          | (go_at_call 75; (with_reducible refine (bits_as HR.out HL.out HK.out HX.out).mono ?_); rintro e w1 ⟨rfl, rfl⟩))
        go_ret
        exact ⟨by rw [← HRR.out]; simp [h3], HBA.out⟩
    · have q2 : decide ((y : Int) ≤ 4096) = false := by simp; omega
      go_enter Tryz.func54, Tryz.ntmps54
      go_wp2_with (first
        | (go_at_call 75; (with_reducible refine (bits_as HR2.out HL2.out HK2.out HY.out).mono ?_); rintro e w1 ⟨rfl, rfl⟩))
      go_ret
      exact ⟨by rw [← HRR.out]; simp [h2], HBA.out⟩
  · have q1 : decide ((0 : Int) < (y : Int)) = false := by simp; omega
    go_enter Tryz.func54, Tryz.ntmps54
    go_wp2_with (first
      | (go_at_call 75; (with_reducible refine (bits_as HR2.out HL2.out HK2.out HY.out).mono ?_); rintro e w1 ⟨rfl, rfl⟩))
    go_ret
    exact ⟨by rw [← HRR.out]; simp [h1], HBA.out⟩
theorem fvalid_as {w : World} {neg : Bool} {a a2 : Option Addr} {n n2 c c2 : Nat} {N D : List Nat} (h : Rd eU w (.slice a n c) N) (h2 : Rd eU w (.slice a2 n2 c2) D) (hN : Lims N) (hD : Lims D) (hn : clen N ≤ 5000) (hd : clen D ≤ 5000) {r : Bool} (hr : validQ N D = r) :
    Calls Tryz.prog 54 #[fv neg (.slice a n c) (.slice a2 n2 c2)] w fun e w' => e = .returned (.bool r) ∧ Below w.heap.size w w' := hr ▸ fvalid_any h h2 hN hD hn hd

theorem fzero_as {w : World} {neg : Bool} {a : Option Addr} {n c : Nat} {N : List Nat} {d : Value} (h : Rd eU w (.slice a n c) N) {a2 : Option Addr} {n2 c2 : Nat} (hd : d = .slice a2 n2 c2) (hN : Lims N) (hn : clen N ≤ 5000) {r : Bool} (hr : decide (clen N = 0) = r) :
    Calls Tryz.prog 57 #[fv neg (.slice a n c) d] w fun e w' => e = .returned (.bool r) ∧ Below w.heap.size w w' := by
  subst hd
  have hba := below_alloc w (.cells #[.bool neg, .slice a n c, .slice a2 n2 c2] 27)
  have HBA := Lib.hid hba
  have HR := Lib.hid (h.keep hba)
  have HL := Lib.hid hN
  have HK := Lib.hid hn
  obtain ⟨x, hx⟩ : ∃ x, bitsN N = x := ⟨_, rfl⟩
  have f1 := bitsN_facts hN
  rw [hx] at f1
  have HX := Lib.hid hx
  have HRR := Lib.hid hr
  clear h hN hn hba hx hr
  by_cases h0 : x = 0
  · have HZ := Lib.hid (show clen N = 0 by omega)
    subst h0
    clear f1
    go_enter Tryz.func57, Tryz.ntmps57
    go_wp2_with (first
      | (go_at_call 75; (with_reducible refine (bits_as HR.out HL.out HK.out HX.out).mono ?_); rintro e w1 ⟨rfl, rfl⟩))
    go_ret
    exact ⟨by rw [← HRR.out, HZ.out]; rfl, HBA.out⟩
  · have HZ := Lib.hid (show ¬ clen N = 0 by omega)
    have q : ((x : Int) == 0) = false := by simpa using h0
    clear f1 h0
    go_enter Tryz.func57, Tryz.ntmps57
    go_wp2_with (first
      | (go_at_call 75; (with_reducible refine (bits_as HR.out HL.out HK.out HX.out).mono ?_); rintro e w1 ⟨rfl, rfl⟩))
    go_ret
    exact ⟨by rw [← HRR.out]; simp [HZ.out], HBA.out⟩

theorem times_any {w : World} {v u : Value} {l m : List Nat} (h : Rd eU w v l) (h2 : Rd eU w u m) (hL : Lims l) (hM : Lims m) (hs : clen l + clen m ≤ 512) :
    Calls Tryz.prog 56 #[v, u] w fun e w' => ∃ a n c, e = .returned (.slice a n c) ∧ Rd eU w' (.slice a n c) (mulL l m) ∧ Below w.heap.size w w' := by
  have HR := Lib.hid h
  have HR2 := Lib.hid h2
  have HL := Lib.hid hL
  have HM := Lib.hid hM
  have HS := Lib.hid hs
  have H1 := Lib.hid (show clen l ≤ 512 by omega)
  have H2 := Lib.hid (show clen m ≤ 512 by omega)
  obtain ⟨a, cap, rfl, hlen⟩ := h.open
  obtain ⟨a2, cap2, rfl, hlen2⟩ := h2.open
  clear h h2 hL hM hs
  go_enter Tryz.func56, Tryz.ntmps56
  go_wp2_with (first
    | (go_at_call 80; (with_reducible refine (mul_any HR.out HR2.out H1.out H2.out HL.out HM.out HS.out).mono ?_); rintro e w1 ⟨r, rfl, hr, hb⟩; have HRR := Lib.hid hr; have HB := Lib.hid hb; clear hr hb))
  go_ret
  obtain ⟨a3, c3, he, _⟩ := HRR.out.open
  subst he
  exact ⟨_, _, _, rfl, HRR.out, HB.out⟩

/-- the order of two valid fractions, as the program reckons it -/
def ordQ (n1 n2 : Bool) (N1 D1 N2 D2 : List Nat) : Int :=
  let a := n1 && !decide (clen N1 = 0)
  let b := n2 && !decide (clen N2 = 0)
  let k := cmpN (mulL N1 D2) (mulL N2 D1)
  if a && b then -k else if a then -1 else if b then 1 else k
end Go.Proofs.YtgnmolleaengaaaGreat
