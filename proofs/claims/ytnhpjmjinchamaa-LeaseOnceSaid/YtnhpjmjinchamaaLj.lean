/- Term; Same at two equal lists; Of and Free of the reference. -/
import Derived.Test.YtnhpjmjinchamaaLf
import Derived.Test.YtnhpjmjinchamaaDa
import Derived.BigQuiet
import Derived.Test.YtnhpjmjinchamaaLy
set_option linter.unusedVariables false
set_option linter.unusedSimpArgs false
set_option linter.unnecessarySimpa false
namespace Go.Proofs.Ytnhpjmjinchamaa
open Go Go.RowKit Go.MapKept

theorem neq_ls (l : Ls) (w : World) : (binOp .neq 46 (lv l) (lv l)).run Try.prog w = .ok (.bool false) w := by
  simp only [binOp]
  simp [eq_ls]

theorem RdL.open' {w : World} {v : Value} {L : List Ls} (h : RdL w v L) : ∃ a cap, v = .slice a L.length cap ∧ L.length ≤ 9223372036854775807 := by
  obtain ⟨a, cap, rfl, h1, h2, _⟩ := h
  exact ⟨a, cap, rfl, by omega⟩

set_option maxRecDepth 20000 in
set_option maxHeartbeats 2000000 in
theorem same_as (v u : Value) (L : List Ls) (w : World) (h : RdL w v L) (h2 : RdL w u L) : Calls Try.prog 34 #[v, u] w fun e w' => e = .returned (.bool true) ∧ Below w.heap.size w w' := by
  obtain ⟨a, cap, rfl, hlen⟩ := h.open'
  obtain ⟨a2, cap2, rfl, -⟩ := h2.open'
  obtain ⟨n, hn⟩ : ∃ n, L.length = n := ⟨_, rfl⟩
  have HN := Lib.hid hn
  rw [hn] at hlen h h2 ⊢
  have H := Lib.hid h
  have H2 := Lib.hid h2
  clear h h2 hn
  go_enter Try.func34, Try.ntmps34
  go_wp2_with fail
  go_loopw [5] (fun s wr => ∃ k q : Nat, k ≤ n ∧ s = .int .i64 k ∧ wr = w.drewN q) (fun s _ => n - (intOf s).toNat)
  case atStart => exact ⟨0, 0, by omega, rfl, rfl⟩
  case round =>
    obtain ⟨k, q, hk, rfl, rfl⟩ := hrel
    by_cases hkn : k < n
    · obtain ⟨l, hl⟩ : ∃ l, L[k]? = some l := ⟨L[k]'(by have := HN.out; omega), by simp⟩
      obtain ⟨b, off, rfl, hb, hc⟩ := H.out.at hl
      obtain ⟨b2, off2, rfl, hb2, hc2⟩ := H2.out.at hl
      have a0 := hc 0 _ rfl
      have a1 := hc 1 _ rfl
      have a2 := hc 2 _ rfl
      have a3 := hc 3 _ rfl
      have a4 := hc 4 _ rfl
      have a5 := hc 5 _ rfl
      have b0 := hc2 0 _ rfl
      have b1 := hc2 1 _ rfl
      have b2' := hc2 2 _ rfl
      have b3 := hc2 3 _ rfl
      have b4 := hc2 4 _ rfl
      have b5 := hc2 5 _ rfl
      simp only [Nat.add_zero] at a0 b0
      clear hc hc2 hl hb hb2
      go_wp2_with fail
      go_quiet (fail)
      go_wp2_with fail
      go_roundw
      case rel => exact ⟨k + 1, q + nq, by omega, by go_num, rfl⟩
      case measure => simp [intOf]; omega
    · go_wp2_with fail
      go_ret
      exact ⟨rfl, below_drewN (Below.refl _ _) _⟩

theorem of_as {w : World} {B rb : Nat} {R : Rf} (h : RfAt w B rb R) (v f : Int) (m : Bool) {l : Ls} {c : Bool} (hl : (R.L.find? (isF v f m)).getD noL = l) (hc : (R.L.find? (isF v f m)).isSome = c) :
    Calls Try.prog 46 #[.pointer (some ⟨rb, 0, none⟩), .int .i64 v, .int .i64 f, .bool m] w fun e w' => e = .returned (.tuple #[lv l, .bool c]) ∧ Below w.heap.size w w' := by
  have hA := h.below (below_alloc w (.cells (lc noL) 46))
  cases hf : R.L.findIdx? (isF v f m) with
  | none =>
    have hN : findN (isF v f m) R.L = -1 := by unfold findN; rw [hf]
    have hq : R.L.find? (isF v f m) = none := by
      rw [List.findIdx?_eq_none_iff] at hf
      exact find_none hf
    rw [hq] at hl hc
    subst hl hc
    have HR := Lib.hid hA
    have HN := Lib.hid hN
    clear h hA hN hf hq
    go_enter Try.func46, Try.ntmps46
    go_wp2_with (go_at_call 52; (with_reducible refine (find_as HR.out HN.out).mono ?_); rintro e w1 ⟨rfl, rfl⟩)
    exact bodyPost_ret (v := .tuple #[lv noL, .bool false]) (by simp [results, Try.results46, go_sem]) rfl ⟨rfl, by first | exact (below_alloc _ _) | (simp; exact below_alloc _ _)⟩
  | some k =>
    have hN : findN (isF v f m) R.L = k := by unfold findN; rw [hf]
    obtain ⟨hk, hp, hb⟩ := List.findIdx?_eq_some_iff_getElem.1 hf
    have hg : R.L[k]? = some R.L[k] := by simp [hk]
    have hq : R.L.find? (isF v f m) = some R.L[k] := find_some hg hp (fun j x hj hx => by
      have := hb j hj
      obtain ⟨hj', rfl⟩ := List.getElem?_eq_some_iff.1 hx
      simpa using this)
    rw [hq] at hl hc
    obtain rfl : R.L[k] = l := hl
    obtain rfl : true = c := hc
    obtain ⟨vL, c96, hrow, -⟩ := hA.row
    obtain ⟨a, cap, rfl⟩ := rows_val hrow
    obtain ⟨g, cap', he, -, hgl, hcell⟩ := rows_at hrow hg
    cases he
    have hsh := h.short
    generalize R.L[k] = l at *
    have b0 := hcell 0 _ rfl
    have b1 := hcell 1 _ rfl
    have b2 := hcell 2 _ rfl
    have b3 := hcell 3 _ rfl
    have b4 := hcell 4 _ rfl
    have b5 := hcell 5 _ rfl
    simp only [Nat.add_zero] at b0
    obtain ⟨n, hn⟩ : ∃ n, R.L.length = n := ⟨_, rfl⟩
    rw [hn] at c96 hk hsh
    have HR := Lib.hid hA
    have HN := Lib.hid hN
    clear h hA hN hf hq hn hb hp hg hrow hcell
    go_enter Try.func46, Try.ntmps46
    go_wp2_with (go_at_call 52; (with_reducible refine (find_as HR.out HN.out).mono ?_); rintro e w1 ⟨rfl, rfl⟩)
    exact bodyPost_ret (v := .tuple #[lv l, .bool true]) (by simp [results, Try.results46, go_sem]) rfl ⟨rfl, by first | exact (below_alloc _ _) | (simp; exact below_alloc _ _)⟩
end Go.Proofs.Ytnhpjmjinchamaa

/- Free and Judge of the reference under Rel. -/
namespace Go.Proofs.Ytnhpjmjinchamaa
open Go Go.RowKit Go.MapKept

theorem Rel.findF {N : Nat} {T : Tb} {R : Rf} (h : Rel N T R) (v f : Int) (m : Bool) : R.L.find? (isF v f m) = ofM T m (v, f) := by
  cases hq : R.L.find? (isF v f m) with
  | some l =>
    have hm := List.mem_of_find?_eq_some hq
    have hp := List.find?_some hq
    unfold isF at hp
    simp at hp
    cases m with
    | true => exact ((h.mm v f l).2 ⟨hm, hp.1.1, hp.1.2, hp.2⟩).symm
    | false => exact ((h.hh v f l).2 ⟨hm, hp.1.1, hp.1.2, hp.2⟩).symm
  | none =>
    have hn := List.find?_eq_none.1 hq
    cases ho : ofM T m (v, f) with
    | none => rfl
    | some l =>
      exfalso
      cases m with
      | true =>
        obtain ⟨h1, h2, h3, h4⟩ := (h.mm v f l).1 ho
        exact hn l h1 (by unfold isF; simp [h2, h3, h4])
      | false =>
        obtain ⟨h1, h2, h3, h4⟩ := (h.hh v f l).1 ho
        exact hn l h1 (by unfold isF; simp [h2, h3, h4])

set_option maxRecDepth 20000 in
set_option maxHeartbeats 2000000 in
theorem rfree_any {w : World} {B rb N : Nat} {T : Tb} {R : Rf} (h : RfAt w B rb R) (hr : Rel N T R) (d n : Int) : Calls Try.prog 48 #[.pointer (some ⟨rb, 0, none⟩), .int .i64 d, .int .i64 n] w (FreePost w T.u d n) := by
  have HR := Lib.hid h
  have HL := Lib.hid hr
  clear h hr
  go_enter Try.func48, Try.ntmps48
  go_wp2_with fail
  go_loopw [7] (fun e wr => ∃ k : Nat, k ≤ 16 ∧ e = .int .i64 k ∧ Hid (∀ e : Int, 0 ≤ e → e < k → (T.u (d, e)).isSome = true) ∧ Below w.heap.size w wr) (fun e _ => 16 - (intOf e).toNat)
  case atStart => exact ⟨0, by omega, rfl, fun e h0 h1 => by omega, Below.refl _ _⟩
  case round =>
    rename World => wr
    obtain ⟨k, hk, rfl, HP, hb⟩ := hrel
    have HB := Lib.hid hb
    clear hb
    by_cases h1 : (k : Int) < n
    · by_cases h2 : (k : Int) < 16
      · by_cases h3 : 0 ≤ d
        · by_cases h4 : d < 24
          · obtain ⟨l, hl⟩ : ∃ l, (R.L.find? (isU d (k : Int))).getD noL = l := ⟨_, rfl⟩
            cases h5 : (R.L.find? (isU d (k : Int))).isSome with
            | false =>
              have H5 := Lib.hid h5
              have H4 := Lib.hid hl
              clear h5 hl
              go_wp2_with (go_at_call 47; (with_reducible refine (rat_as (HR.out.below HB.out) H4.out H5.out).mono ?_); rintro e w1 ⟨rfl, hb1⟩; have HB1 := Lib.hid (HB.out.trans (hb1.mono HB.out.size)); clear hb1)
              go_ret
              exact ⟨_, rfl, .inr ⟨by omega, h1, by unfold extB; simp; omega, by have := H5.out; rw [HL.out.find] at this; simpa using this, HP.out⟩, HB1.out.alloc HB1.out.size _⟩
            | true =>
              have H5 := Lib.hid h5
              have H4 := Lib.hid hl
              clear h5 hl
              go_wp2_with (go_at_call 47; (with_reducible refine (rat_as (HR.out.below HB.out) H4.out H5.out).mono ?_); rintro e w1 ⟨rfl, hb1⟩; have HB1 := Lib.hid (HB.out.trans (hb1.mono HB.out.size)); clear hb1)
              go_roundw
              case rel =>
                refine ⟨k + 1, by omega, by go_num, fun e h0 h4 => ?_, HB1.out.alloc HB1.out.size _⟩
                by_cases q : e < k
                · exact HP.out e h0 q
                · obtain rfl : e = k := by omega
                  rw [← HL.out.find]
                  exact H5.out
              case measure => simp [intOf]; omega
          · go_wp2_with fail
            go_ret
            exact ⟨_, rfl, .inl ⟨rfl, fun e q1 q2 q3 => by unfold extB at q3; simp at q3; omega⟩, HB.out⟩
        · go_wp2_with fail
          go_ret
          exact ⟨_, rfl, .inl ⟨rfl, fun e q1 q2 q3 => by unfold extB at q3; simp at q3; omega⟩, HB.out⟩
      · go_wp2_with fail
        go_ret
        exact ⟨_, rfl, .inl ⟨rfl, fun e q1 q2 q3 => HP.out e q1 (by unfold extB at q3; simp at q3; omega)⟩, HB.out⟩
    · go_wp2_with fail
      go_ret
      exact ⟨_, rfl, .inl ⟨rfl, fun e q1 q2 q3 => HP.out e q1 (by omega)⟩, HB.out⟩
theorem rfree_as {w : World} {B rb N : Nat} {T : Tb} {R : Rf} (h : RfAt w B rb R) (hr : Rel N T R) {d n r : Int} (he : FreeIs T.u d n r) : Calls Try.prog 48 #[.pointer (some ⟨rb, 0, none⟩), .int .i64 d, .int .i64 n] w fun e w' => e = .returned (.int .i64 r) ∧ Below w.heap.size w w' :=
  (rfree_any h hr d n).mono fun e w' ⟨r', h1, h2, h3⟩ => ⟨by rw [h1, h2.uniq he], h3⟩

/-- the lease that Judge looks for -/
def isJ (v f d n : Int) (l : Ls) : Bool := l.vol == v && l.frag == f && l.drive == d && l.gen == n
theorem isJ_iff {v f d n : Int} {l : Ls} : isJ v f d n l = true ↔ l.vol = v ∧ l.frag = f ∧ l.drive = d ∧ l.gen = n := by
  unfold isJ
  simp [and_assoc]
/-- .. and what the reference says -/
def rjF (R : Rf) (v f d n : Int) : Int := match R.L.find? (isJ v f d n) with
  | some l => if l.mov then 2 else 1
  | none => if fragB v f && decide (1 ≤ n) && decide (n ≤ R.G (v, f)) then 3 else 4

theorem Rel.judge {N : Nat} {T : Tb} {R : Rf} (h : Rel N T R) (v f d n : Int) : rjF R v f d n = judgeF T v f d n := by
  have kh : ∀ l, T.h (v, f) = some l → isJ v f d n l = (l.drive == d && l.gen == n) := fun l hl => by
    obtain ⟨-, h2, h3, -⟩ := (h.hh v f l).1 hl
    unfold isJ
    simp [h2, h3]
  have km : ∀ l, T.m (v, f) = some l → isJ v f d n l = (l.drive == d && l.gen == n) := fun l hl => by
    obtain ⟨-, h2, h3, -⟩ := (h.mm v f l).1 hl
    unfold isJ
    simp [h2, h3]
  have home : ∀ q : Bool, ((T.h (v, f)).isSome && ((T.h (v, f)).getD noL).drive == d && ((T.h (v, f)).getD noL).gen == n) = true ↔ ∃ l, T.h (v, f) = some l ∧ isJ v f d n l = true := fun _ => by
    cases hq : T.h (v, f) with
    | none => simp
    | some l => simp [kh l hq]
  have targ : ∀ q : Bool, ((T.m (v, f)).isSome && ((T.m (v, f)).getD noL).drive == d && ((T.m (v, f)).getD noL).gen == n) = true ↔ ∃ l, T.m (v, f) = some l ∧ isJ v f d n l = true := fun _ => by
    cases hq : T.m (v, f) with
    | none => simp
    | some l => simp [km l hq]
  unfold rjF judgeF
  cases hf : R.L.find? (isJ v f d n) with
  | none =>
    have hn := List.find?_eq_none.1 hf
    have n1 : ((T.h (v, f)).isSome && ((T.h (v, f)).getD noL).drive == d && ((T.h (v, f)).getD noL).gen == n) = false := by
      rw [Bool.eq_false_iff]
      intro hh
      obtain ⟨l, h1, h2⟩ := (home true).1 hh
      exact hn l ((h.hh v f l).1 h1).1 h2
    have n2 : ((T.m (v, f)).isSome && ((T.m (v, f)).getD noL).drive == d && ((T.m (v, f)).getD noL).gen == n) = false := by
      rw [Bool.eq_false_iff]
      intro hh
      obtain ⟨l, h1, h2⟩ := (targ true).1 hh
      exact hn l ((h.mm v f l).1 h1).1 h2
    rw [n1, n2, h.gg]
    simp only [Bool.false_eq_true, if_false]
    cases hfr : fragB v f with
    | true => simp
    | false =>
      have := h.gout v f hfr
      rw [h.gg] at this
      rw [this]
      simp
      omega
  | some l =>
    have hm := List.mem_of_find?_eq_some hf
    have hp := List.find?_some hf
    obtain ⟨e1, e2, e3, e4⟩ := isJ_iff.1 hp
    cases hmv : l.mov with
    | false =>
      have := (home true).2 ⟨l, (h.hh v f l).2 ⟨hm, e1, e2, hmv⟩, hp⟩
      rw [this]
      simp [hmv]
    | true =>
      have n1 : ((T.h (v, f)).isSome && ((T.h (v, f)).getD noL).drive == d && ((T.h (v, f)).getD noL).gen == n) = false := by
        rw [Bool.eq_false_iff]
        intro hh
        obtain ⟨l', h1, h2⟩ := (home true).1 hh
        obtain ⟨g1, g2, g3, g4⟩ := (h.hh v f l').1 h1
        have hbl : beforeB l' l = true := (before_iff _ _).2 (.inr ⟨by rw [g2, e1], .inr ⟨by rw [g3, e2], g4, hmv⟩⟩)
        obtain ⟨hp', xs, ys, hL, hno⟩ := List.find?_eq_some_iff_append.1 hf
        have hl' : l' ∈ ys := by
          rw [hL] at g1
          rcases List.mem_append.1 g1 with q | q
          · exact absurd h2 (by simpa using hno l' q)
          · rcases List.mem_cons.1 q with q | q
            · subst q; rw [hmv] at g4; cases g4
            · exact q
        have hs := h.srt
        unfold Srt at hs
        rw [hL] at hs
        have := (List.pairwise_cons.1 (List.pairwise_append.1 hs).2.1).1 l' hl'
        have q := before_trans hbl this
        exact before_not q rfl rfl rfl
      have := (targ true).2 ⟨l, (h.mm v f l).2 ⟨hm, e1, e2, hmv⟩, hp⟩
      rw [n1, this]
      simp [hmv]
end Go.Proofs.Ytnhpjmjinchamaa

/- Judge of the reference. -/
namespace Go.Proofs.Ytnhpjmjinchamaa
open Go Go.RowKit Go.MapKept

/-- behind the loop: no lease fits -/
theorem rjF_no {R : Rf} {v f d n : Int} (h : ∀ (j : Nat) (x : Ls), R.L[j]? = some x → isJ v f d n x = false) : rjF R v f d n = if fragB v f && decide (1 ≤ n) && decide (n ≤ R.G (v, f)) then 3 else 4 := by
  unfold rjF
  rw [find_none fun x hx => by
    obtain ⟨j, hj, rfl⟩ := List.getElem_of_mem hx
    exact h j _ (by simp)]

def four (a b c d : Bool) : Prop := (a = true ∧ b = true ∧ c = true ∧ d = true) ∨ a = false ∨ (a = true ∧ b = false) ∨ (a = true ∧ b = true ∧ c = false) ∨ (a = true ∧ b = true ∧ c = true ∧ d = false)
theorem four_of (a b c d : Bool) : four a b c d := by unfold four; cases a <;> cases b <;> cases c <;> cases d <;> simp

set_option maxRecDepth 20000 in
set_option maxHeartbeats 4000000 in
theorem rjudge_any {w : World} {B rb : Nat} {R : Rf} (h : RfAt w B rb R) (v f d n : Int) : Calls Try.prog 49 #[.pointer (some ⟨rb, 0, none⟩), .int .i64 v, .int .i64 f, .int .i64 d, .int .i64 n] w fun e w' => e = .returned (.int .i64 (rjF R v f d n)) ∧ Below w.heap.size w w' := by
  obtain ⟨vL, -, hrow, -⟩ := h.row
  obtain ⟨a, cap, rfl⟩ := rows_val hrow
  have hsh := h.short
  obtain ⟨z, hz⟩ : ∃ n, n = R.L.length := ⟨_, rfl⟩
  rw [← hz] at hsh
  have HA := Lib.hid h
  have HN := Lib.hid hz
  obtain ⟨r, hr⟩ : ∃ r, rjF R v f d n = r := ⟨_, rfl⟩
  rw [hr]
  have HF := Lib.hid hr
  clear h hrow hz hr
  go_enter Try.func49, Try.ntmps49
  go_wp2_with fail
  go_loopw [11] (fun i wr => ∃ k : Nat, k ≤ z ∧ i = .int .i64 k ∧ Hid (∀ (j : Nat) (x : Ls), j < k → R.L[j]? = some x → isJ v f d n x = false) ∧ Below w.heap.size w wr) (fun i _ => z - (intOf i).toNat)
  case atStart => exact ⟨0, by omega, rfl, fun j x hj => by omega, Below.refl _ _⟩
  case round =>
    rename World => wr
    obtain ⟨k, hk, rfl, HP, hb⟩ := hrel
    have HB := Lib.hid hb
    clear hb
    obtain ⟨vL, c96, hrow, -⟩ := (HA.out.below HB.out).row
    obtain ⟨a, cap, rfl⟩ := rows_val hrow
    rw [← HN.out] at c96
    have HR := Lib.hid hrow
    have hlt := (HA.out.below HB.out).lt
    clear hrow
    by_cases hkn : k < z
    · obtain ⟨l, hl⟩ : ∃ l, R.L[k]? = some l := ⟨R.L[k]'(by have := HN.out; omega), by simp⟩
      obtain ⟨g, cap', he, -, hg, hcell⟩ := rows_at HR.out hl
      cases he
      have b0 := hcell 0 _ rfl
      have b1 := hcell 1 _ rfl
      have b2 := hcell 2 _ rfl
      have b3 := hcell 3 _ rfl
      have b4 := hcell 4 _ rfl
      have b5 : wr.cell? ⟨g, 0 + k * 6 + 5, none⟩ = some (.bool l.mov) := by
        have := hcell 5 (.bool l.mov) rfl
        simpa using this
      simp only [Nat.zero_add] at b5
      have HL := Lib.hid hl
      clear hcell hl
      simp only [Nat.add_zero] at b0
      obtain ⟨q0, hq0⟩ : ∃ q, (l.vol == v) = q := ⟨_, rfl⟩
      obtain ⟨q1, hq1⟩ : ∃ q, (l.frag == f) = q := ⟨_, rfl⟩
      obtain ⟨q2, hq2⟩ : ∃ q, (l.drive == d) = q := ⟨_, rfl⟩
      obtain ⟨q3, hq3⟩ : ∃ q, (l.gen == n) = q := ⟨_, rfl⟩
      have HQ := Lib.hid (show isJ v f d n l = (q0 && q1 && q2 && q3) by unfold isJ; rw [hq0, hq1, hq2, hq3])
      rcases four_of q0 q1 q2 q3 with ⟨rfl, rfl, rfl, rfl⟩ | rfl | ⟨rfl, rfl⟩ | ⟨rfl, rfl, rfl⟩ | ⟨rfl, rfl, rfl, rfl⟩
      · have HV := Lib.hid (show rjF R v f d n = if l.mov then 2 else 1 by unfold rjF; rw [find_some HL.out HQ.out HP.out])
        cases hm : l.mov with
        | true =>
          rw [hm] at b5
          go_wp2_with fail
          go_ret
          exact ⟨by rw [← HF.out, HV.out, hm]; rfl, HB.out.alloc HB.out.size _⟩
        | false =>
          rw [hm] at b5
          go_wp2_with fail
          go_ret
          exact ⟨by rw [← HF.out, HV.out, hm]; rfl, HB.out.alloc HB.out.size _⟩
      all_goals
        go_wp2_with fail
        go_roundw
        case rel =>
          refine ⟨k + 1, by omega, by go_num, fun j x hj hx => ?_, HB.out.alloc HB.out.size _⟩
          by_cases e : j < k
          · exact HP.out j x e hx
          · obtain rfl : j = k := by omega
            have := HL.out
            rw [hx] at this
            cases this
            exact HQ.out
        case measure => simp [intOf]; omega
    · have HV := Lib.hid (rjF_no (R := R) (v := v) (f := f) (d := d) (n := n) fun j x hx => HP.out j x (by have := (List.getElem?_eq_some_iff.1 hx).1; have := HN.out; omega) hx)
      cases hf : fragB v f with
      | false =>
        have HG := Lib.hid hf
        clear hf
        go_wp2_with (go_at_call 50; (with_reducible refine (rfrag_as HG.out _).mono ?_); rintro e w1 ⟨rfl, rfl⟩)
        go_ret
        exact ⟨by rw [← HF.out, HV.out, HG.out]; rfl, HB.out⟩
      | true =>
        obtain ⟨a1, a2, a3, a4⟩ := frag_of hf
        obtain ⟨vn, rfl⟩ : ∃ m : Nat, v = m := ⟨v.toNat, by omega⟩
        obtain ⟨fn, rfl⟩ : ∃ m : Nat, f = m := ⟨f.toNat, by omega⟩
        have hvn : vn < 12 := by omega
        have hfn : fn < 8 := by omega
        have hg : wr.cell? ⟨rb, vn * 8 + fn, none⟩ = some (.int .i64 (R.G ((vn : Int), (fn : Int)))) := (HA.out.below HB.out).giv vn fn hvn hfn
        obtain ⟨gv, hgv⟩ : ∃ g, R.G ((vn : Int), (fn : Int)) = g := ⟨_, rfl⟩
        rw [hgv] at hg
        have HGV := Lib.hid hgv
        have HG := Lib.hid hf
        clear hf a1 a2 a3 a4 hgv
        by_cases h1 : 1 ≤ n
        · by_cases h2 : n ≤ gv
          · go_wp2_with (go_at_call 50; (with_reducible refine (rfrag_as HG.out _).mono ?_); rintro e w1 ⟨rfl, rfl⟩)
            go_ret
            exact ⟨by rw [← HF.out, HV.out, HG.out, HGV.out]; simp [h1, h2], HB.out⟩
          · go_wp2_with (go_at_call 50; (with_reducible refine (rfrag_as HG.out _).mono ?_); rintro e w1 ⟨rfl, rfl⟩)
            go_ret
            exact ⟨by rw [← HF.out, HV.out, HG.out, HGV.out]; simp [h1, h2], HB.out⟩
        · have h3 : decide (1 ≤ n) = false := by simp; omega
          clear h1
          go_wp2_with (go_at_call 50; (with_reducible refine (rfrag_as HG.out _).mono ?_); rintro e w1 ⟨rfl, rfl⟩)
          go_ret
          exact ⟨by rw [← HF.out, HV.out, HG.out]; simp [h3], HB.out⟩
theorem rjudge_as {w : World} {B rb N : Nat} {T : Tb} {R : Rf} (h : RfAt w B rb R) (hr : Rel N T R) {v f d n r : Int} (he : judgeF T v f d n = r) : Calls Try.prog 49 #[.pointer (some ⟨rb, 0, none⟩), .int .i64 v, .int .i64 f, .int .i64 d, .int .i64 n] w fun e w' => e = .returned (.int .i64 r) ∧ Below w.heap.size w w' := by
  have := rjudge_any h v f d n
  rw [hr.judge, he] at this
  exact this
end Go.Proofs.Ytnhpjmjinchamaa

/- alike under Rel. -/
namespace Go.Proofs.Ytnhpjmjinchamaa
open Go Go.RowKit Go.MapKept

section
variable {P : Program} {ops : Array Oper} {md : Region.Mode} {S : World → Prop}
theorem pRow_step {Q : Act → Prop} {a : Act} {i : Nat} {o : Oper} {is : List Nat} (v : Value) (hi : ops[i]? = some o) (hw : Region.wanted o (yielded ops a.tmps) = true)
    (hv : ∀ w, S w → bUpon P v w ((execOp a.eval o).run P w)) (hk : ∀ K : Act → Prop, (∀ a, pRow P ops S Q is a → K a) → K (a.put o.dst v)) : pRow P ops S Q (i :: is) a :=
  ⟨o, hi, v, .inl ⟨hw, hv⟩, hk _ (fun _ h => h)⟩
theorem pRow_not {Q : Act → Prop} {a : Act} {i : Nat} {o : Oper} {is : List Nat} (hi : ops[i]? = some o) (hw : Region.wanted o (yielded ops a.tmps) = false)
    (hk : ∀ K : Act → Prop, (∀ a, pRow P ops S Q is a → K a) → K (a.put o.dst undef)) : pRow P ops S Q (i :: is) a :=
  ⟨o, hi, undef, .inr ⟨hw, rfl⟩, hk _ (fun _ h => h)⟩
theorem lOp_guarded {T : World → Prop} {i : Nat} {o : Oper} {a : Act} {K : (World → Prop) → Act → Prop} (hi : ops[i]? = some o) (V : Value → World → Prop) (hw : Region.wanted o (yielded ops a.tmps) = true) (h1 : ∀ u, Stable (V u)) (h2 : ∀ u w, V u w → S w)
    (hv : ∀ w, T w → sUpon P V ((execOp a.eval o).run P w)) (hk : ∀ u, (∃ w, V u w) → ∀ K' : Act → Prop, (∀ a, K (V u) a → K' a) → K' (a.put o.dst u)) : lOp P ops S T i K a := by
  unfold lOp
  simp only [hi]
  exact .inr ⟨V, ⟨h1, h2, hw, hv⟩, fun u hu => hk u hu _ (fun _ h => h)⟩
end


theorem RdL.of_rows {w : World} {B : Nat} {v : Value} {L : List Ls} (h : Rows w B v L) : RdL w v L := by
  rcases h.2 with ⟨rfl, h0⟩ | ⟨g, cap, cur, rfl, hB, hg, hnc, hcm, hcs, htk⟩
  · have : L = [] := List.length_eq_zero_iff.1 h0
    subst this
    exact ⟨none, 0, rfl, by simp, by omega, .inl rfl⟩
  · refine ⟨_, cap, rfl, hnc, by unfold maxLen at hcm; omega, .inr ⟨g, 0, rfl, (Array.getElem?_eq_some_iff.1 hg).1, fun j u hu => ?_⟩⟩
    have hj : j < L.length * 6 := by rw [← flat_len]; exact (List.getElem?_eq_some_iff.1 hu).1
    rw [← htk, List.getElem?_take, if_pos hj] at hu
    simp only [World.cell?, hg]
    simpa using hu

theorem free_ex (U : Pk → Option Ls) (d n : Int) : ∃ r, FreeIs U d n r := by
  have key : ∀ m : Nat, (∃ r, FreeIs U d n r) ∨ (∀ e : Int, 0 ≤ e → e < m → e < n → extB d e = true → (U (d, e)).isSome = true) := by
    intro m
    induction m with
    | zero => exact .inr fun e h1 h2 => by omega
    | succ m ih =>
      rcases ih with h | h
      · exact .inl h
      · by_cases q : (m : Int) < n ∧ extB d m = true ∧ U (d, (m : Int)) = none
        · obtain ⟨q1, q2, q3⟩ := q
          refine .inl ⟨m, .inr ⟨by omega, q1, q2, q3, fun e h1 h2 => h e h1 h2 (by omega) ?_⟩⟩
          unfold extB at q2 ⊢
          simp at q2 ⊢
          omega
        · refine .inr fun e h1 h2 h3 h4 => ?_
          by_cases e1 : e < m
          · exact h e h1 e1 h3 h4
          · obtain rfl : e = m := by omega
            cases hu : U (d, (m : Int)) with
            | none => exact absurd ⟨h3, h4, hu⟩ q
            | some _ => rfl
  rcases key 16 with h | h
  · exact h
  · exact ⟨-1, .inl ⟨rfl, fun e h1 h2 h3 => h e h1 (by unfold extB at h3; simp at h3; omega) h2 h3⟩⟩

theorem of_as' {w : World} {B rb N : Nat} {T : Tb} {R : Rf} (h : RfAt w B rb R) (hr : Rel N T R) (v f : Int) {l : Ls} {c : Bool} (hl : (T.h (v, f)).getD noL = l) (hc : (T.h (v, f)).isSome = c) :
    Calls Try.prog 46 #[.pointer (some ⟨rb, 0, none⟩), .int .i64 v, .int .i64 f, .bool false] w fun e w' => e = .returned (.tuple #[lv l, .bool c]) ∧ Below w.heap.size w w' :=
  of_as h v f false (by rw [hr.findF]; exact hl) (by rw [hr.findF]; exact hc)
theorem ofm_as {w : World} {B rb N : Nat} {T : Tb} {R : Rf} (h : RfAt w B rb R) (hr : Rel N T R) (v f : Int) {l : Ls} {c : Bool} (hl : (T.m (v, f)).getD noL = l) (hc : (T.m (v, f)).isSome = c) :
    Calls Try.prog 46 #[.pointer (some ⟨rb, 0, none⟩), .int .i64 v, .int .i64 f, .bool true] w fun e w' => e = .returned (.tuple #[lv l, .bool c]) ∧ Below w.heap.size w w' :=
  of_as h v f true (by rw [hr.findF]; exact hl) (by rw [hr.findF]; exact hc)
theorem rat_as' {w : World} {B rb N : Nat} {T : Tb} {R : Rf} (h : RfAt w B rb R) (hr : Rel N T R) (d x : Int) {l : Ls} {c : Bool} (hl : (T.u (d, x)).getD noL = l) (hc : (T.u (d, x)).isSome = c) :
    Calls Try.prog 47 #[.pointer (some ⟨rb, 0, none⟩), .int .i64 d, .int .i64 x] w fun e w' => e = .returned (.tuple #[lv l, .bool c]) ∧ Below w.heap.size w w' :=
  rat_as h (by rw [hr.find]; exact hl) (by rw [hr.find]; exact hc)

def AlR (W0 w1 : World) (b6 b5 b4 b3 b2 b1 : Nat) (l1 l2 l3 : Ls) (w' : World) : Prop := Mm [] w1 w' [(b6, lc l3), (b5, lc l3), (b4, lc l2), (b3, lc l2), (b2, lc l1), (b1, lc l1)] ∧ Below W0.heap.size W0 w'
theorem AlR.step {W0 w1 w w' : World} {b6 b5 b4 b3 b2 b1 : Nat} {l1 l2 l3 : Ls} (h : AlR W0 w1 b6 b5 b4 b3 b2 b1 l1 l2 l3 w) (hb : Below w.heap.size w w') : AlR W0 w1 b6 b5 b4 b3 b2 b1 l1 l2 l3 w' := ⟨h.1.call hb, h.2.trans (hb.mono h.2.size)⟩
/-- the slice and the count of the reference, kept -/
theorem ref_at2 {W w' : World} {rb : Nat} {v : Value} {t : Int} (hl : rb < W.heap.size) (hw : W.cell? ⟨rb, 96, none⟩ = some v) (hn : W.cell? ⟨rb, 97, none⟩ = some (.int .i64 t)) (hb : Below W.heap.size W w') :
    w'.cell? ⟨rb, 96, none⟩ = some v ∧ w'.cell? ⟨rb, 97, none⟩ = some (.int .i64 t) ∧ rb < w'.heap.size :=
  ⟨(hb.cell (p := ⟨rb, 96, none⟩) hl).trans hw, (hb.cell (p := ⟨rb, 97, none⟩) hl).trans hn, Nat.lt_of_lt_of_le hl hb.size⟩
end Go.Proofs.Ytnhpjmjinchamaa
