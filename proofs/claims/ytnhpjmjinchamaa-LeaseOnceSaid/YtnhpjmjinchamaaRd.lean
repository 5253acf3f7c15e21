/- The walks of the reference's Place and Grant. -/
import Derived.Test.YtnhpjmjinchamaaRc
set_option linter.unusedVariables false
set_option linter.unusedSimpArgs false
set_option linter.unnecessarySimpa false
namespace Go.Proofs.Ytnhpjmjinchamaa
open Go Go.RowKit

def putR (R : Rf) (x : Ls) : Rf := { R with G := upd R.G (x.vol, x.frag) (R.G (x.vol, x.frag) + 1), L := insL R.L { x with gen := R.G (x.vol, x.frag) + 1 } }
def SmallR (R : Rf) : Prop := (∀ k, 0 ≤ R.G k ∧ R.G k ≤ 4611686018427387904) ∧ R.L.length ≤ 999

theorem put_as {w : World} {B rb : Nat} {R R' : Rf} (h : RfAt w B rb R) (hs : SmallR R) {v f d e : Int} {mv : Bool} (hb : fragB v f = true) {n : Int} (hn : R.G (v, f) + 1 = n) (hR : putR R ⟨v, f, d, e, 0, mv⟩ = R') :
    Calls Try.prog 53 #[.pointer (some ⟨rb, 0, none⟩), lv ⟨v, f, d, e, 0, mv⟩] w (RefPost w B rb R' (.int .i64 n)) := by
  unfold fragB at hb
  simp at hb
  obtain ⟨a, rfl⟩ := Int.eq_ofNat_of_zero_le hb.1
  obtain ⟨b, rfl⟩ := Int.eq_ofNat_of_zero_le hb.2.2.1
  subst hn hR
  exact put_any h a b (by omega) (by omega) d e 0 mv (hs.1 _).1 (hs.1 _).2 hs.2
theorem find_as {w : World} {B rb : Nat} {R : Rf} (h : RfAt w B rb R) {v f : Int} {m : Bool} {n : Int} (hn : findN (isF v f m) R.L = n) : Calls Try.prog 52 #[.pointer (some ⟨rb, 0, none⟩), .int .i64 v, .int .i64 f, .bool m] w fun e w' => e = .returned (.int .i64 n) ∧ w = w' := hn ▸ find_any h v f m
theorem rat_as {w : World} {B rb : Nat} {R : Rf} (h : RfAt w B rb R) {d x : Int} {l : Ls} {c : Bool} (hl : (R.L.find? (isU d x)).getD noL = l) (hc : (R.L.find? (isU d x)).isSome = c) : Calls Try.prog 47 #[.pointer (some ⟨rb, 0, none⟩), .int .i64 d, .int .i64 x] w fun e w' => e = .returned (.tuple #[lv l, .bool c]) ∧ Below w.heap.size w w' := by
  subst hl hc
  exact rat_any h d x
theorem RfAt.ble {w : World} {B rb : Nat} {R : Rf} (h : RfAt w B rb R) : B ≤ w.heap.size := Nat.le_of_lt (Nat.lt_of_le_of_lt h.base h.lt)

/-- the worlds of a reference's method -/
structure Rs (w : World) (B rb : Nat) (R : Rf) (w' : World) : Prop where
  rf : RfAt w' B rb R
  below : Only [rb] w w'
  sep : ∀ b, b < w.heap.size → Sep w rb b → Sep w' rb b
theorem Rs.start {w : World} {B rb : Nat} {R : Rf} (h : RfAt w B rb R) : Rs w B rb R w := ⟨h, Only.refl _ _, fun _ _ h => h⟩
theorem Rs.call {w w1 w' : World} {B rb : Nat} {R : Rf} (h : Rs w B rb R w1) (hb : Below w1.heap.size w1 w') : Rs w B rb R w' := ⟨h.rf.below hb, h.below.trans (Only.of_below _ hb), fun b hlt hs => (h.sep b hlt hs).below h.rf hb⟩
theorem Rs.post {w w1 w' : World} {B rb : Nat} {R R' : Rf} {v : Value} {e : Ending} (h : Rs w B rb R w1) (ho : RefPost w1 B rb R' v e w') : e = .returned v ∧ Rs w B rb R' w' := ⟨ho.1, ho.2.1, h.below.trans ho.2.2.1, fun b hlt hs => ho.2.2.2 b (Nat.lt_of_lt_of_le hlt h.below.size) (h.sep b hlt hs)⟩

def rplaceF (R : Rf) (v f d x : Int) : (Int × Int) × Rf :=
  if fragB v f && extB d x then
    if (R.L.find? (isU d x)).isSome || decide (0 ≤ findN (isF v f false) R.L) then ((0, 110), R) else ((R.G (v, f) + 1, 0), putR R ⟨v, f, d, x, 0, false⟩)
  else ((0, 5), R)

set_option maxHeartbeats 1000000 in
theorem rplace_any {w : World} {B rb : Nat} {R : Rf} (h : RfAt w B rb R) (hs : SmallR R) (v f d x : Int) : Calls Try.prog 28 #[.pointer (some ⟨rb, 0, none⟩), .int .i64 v, .int .i64 f, .int .i64 d, .int .i64 x] w
    (RefPost w B rb (rplaceF R v f d x).2 (.tuple #[.int .i64 (rplaceF R v f d x).1.1, .int .i64 (rplaceF R v f d x).1.2])) := by
  have HS := Lib.hid (Rs.start h)
  have HZ := Lib.hid hs
  unfold rplaceF
  obtain ⟨q1, h1⟩ : ∃ q, fragB v f = q := ⟨_, rfl⟩
  obtain ⟨q2, h2⟩ : ∃ q, extB d x = q := ⟨_, rfl⟩
  obtain ⟨lu, hlu⟩ : ∃ q, (R.L.find? (isU d x)).getD noL = q := ⟨_, rfl⟩
  obtain ⟨cu, hcu⟩ : ∃ q, (R.L.find? (isU d x)).isSome = q := ⟨_, rfl⟩
  obtain ⟨k, hk⟩ : ∃ q, findN (isF v f false) R.L = q := ⟨_, rfl⟩
  obtain ⟨n, hn⟩ : ∃ q, R.G (v, f) + 1 = q := ⟨_, rfl⟩
  obtain ⟨R', hR⟩ : ∃ q, putR R ⟨v, f, d, x, 0, false⟩ = q := ⟨_, rfl⟩
  rw [h1, h2, hcu, hk, hn, hR]
  have H1 := Lib.hid h1
  have H2 := Lib.hid h2
  have H3 := Lib.hid hlu
  have H4 := Lib.hid hcu
  have H5 := Lib.hid hk
  have H6 := Lib.hid hn
  have H7 := Lib.hid hR
  clear h hs h1 h2 hlu hcu hk hn hR
  cases q1 with
  | false =>
    go_enter Try.func28, Try.ntmps28
    go_wp2_with (first
      | (go_at_call 50; (with_reducible refine (rfrag_as H1.out _).mono ?_); rintro e w1 ⟨rfl, rfl⟩))
    go_ret2
    exact ⟨rfl, HS.out.rf, HS.out.below, HS.out.sep⟩
  | true =>
    cases q2 with
    | false =>
      go_enter Try.func28, Try.ntmps28
      go_wp2_with (first
        | (go_at_call 50; (with_reducible refine (rfrag_as H1.out _).mono ?_); rintro e w1 ⟨rfl, rfl⟩)
        | (go_at_call 51; (with_reducible refine (rext_as H2.out _).mono ?_); rintro e w1 ⟨rfl, rfl⟩))
      go_ret2
      exact ⟨rfl, HS.out.rf, HS.out.below, HS.out.sep⟩
    | true =>
      cases cu with
      | true =>
        go_enter Try.func28, Try.ntmps28
        go_wp2_with (first
          | (go_at_call 50; (with_reducible refine (rfrag_as H1.out _).mono ?_); rintro e w1 ⟨rfl, rfl⟩)
          | (go_at_call 51; (with_reducible refine (rext_as H2.out _).mono ?_); rintro e w1 ⟨rfl, rfl⟩)
          | (go_at_call 47; (with_reducible refine (rat_as HS.out.rf H3.out H4.out).mono ?_); rintro e w2 ⟨rfl, hb⟩; have HS2 := Lib.hid ((HS.out.call hb).call (below_alloc _ (.cells (lc lu) 46))); clear hb))
        go_ret2
        exact ⟨rfl, HS2.out.rf, HS2.out.below, HS2.out.sep⟩
      | false =>
        by_cases hk : 0 ≤ k
        · have hk1 : decide (0 ≤ k) = true := by simpa using hk
          simp only [Bool.and_self, Bool.false_or, hk1, if_true]
          go_enter Try.func28, Try.ntmps28
          go_wp2_with (first
            | (go_at_call 50; (with_reducible refine (rfrag_as H1.out _).mono ?_); rintro e w1 ⟨rfl, rfl⟩)
            | (go_at_call 51; (with_reducible refine (rext_as H2.out _).mono ?_); rintro e w1 ⟨rfl, rfl⟩)
            | (go_at_call 47; (with_reducible refine (rat_as HS.out.rf H3.out H4.out).mono ?_); rintro e w2 ⟨rfl, hb⟩; have HS2 := Lib.hid ((HS.out.call hb).call (below_alloc _ (.cells (lc lu) 46))); clear hb)
            | (go_at_call 52; (with_reducible refine (find_as HS2.out.rf H5.out).mono ?_); rintro e w3 ⟨rfl, rfl⟩))
          go_ret2
          exact ⟨rfl, HS2.out.rf, HS2.out.below, HS2.out.sep⟩
        · have hk1 : decide (0 ≤ k) = false := by simpa using hk
          simp only [Bool.and_self, Bool.false_or, hk1, if_true, Bool.false_eq_true, if_false]
          go_enter Try.func28, Try.ntmps28
          go_wp2_with (first
            | (go_at_call 50; (with_reducible refine (rfrag_as H1.out _).mono ?_); rintro e w1 ⟨rfl, rfl⟩)
            | (go_at_call 51; (with_reducible refine (rext_as H2.out _).mono ?_); rintro e w1 ⟨rfl, rfl⟩)
            | (go_at_call 47; (with_reducible refine (rat_as HS.out.rf H3.out H4.out).mono ?_); rintro e w2 ⟨rfl, hb⟩; have HS2 := Lib.hid ((HS.out.call hb).call (below_alloc _ (.cells (lc lu) 46))); clear hb)
            | (go_at_call 52; (with_reducible refine (find_as HS2.out.rf H5.out).mono ?_); rintro e w3 ⟨rfl, rfl⟩)
            | (go_at_call 53; (with_reducible refine (put_as HS2.out.rf HZ.out H1.out H6.out H7.out).mono ?_); intro e w4 ho; have HS4 := Lib.hid (HS2.out.post ho).2; obtain ⟨rfl, -⟩ := ho))
          go_ret2
          exact ⟨rfl, HS4.out.rf, HS4.out.below, HS4.out.sep⟩

def rgrantF (R : Rf) (v f d x : Int) : (Int × Int) × Rf :=
  if fragB v f && extB d x then
    if decide (findN (isF v f false) R.L < 0) || decide (0 ≤ findN (isF v f true) R.L) || (R.L.getD (findN (isF v f false) R.L).toNat noL).drive == d || (R.L.find? (isU d x)).isSome then ((0, 110), R) else ((R.G (v, f) + 1, 0), putR R ⟨v, f, d, x, 0, true⟩)
  else ((0, 5), R)

theorem findN_lt {p : Ls → Bool} {L : List Ls} {k : Int} (h : findN p L = k) (h0 : 0 ≤ k) : k.toNat < L.length ∧ (k.toNat : Int) = k := by
  unfold findN at h
  split at h
  · rename_i j hj
    have := (List.findIdx?_eq_some_iff_getElem.1 hj).1
    omega
  · omega


set_option maxRecDepth 20000 in
set_option maxHeartbeats 2000000 in
theorem rgrant_any {w : World} {B rb : Nat} {R : Rf} (h : RfAt w B rb R) (hs : SmallR R) (v f d x : Int) : Calls Try.prog 29 #[.pointer (some ⟨rb, 0, none⟩), .int .i64 v, .int .i64 f, .int .i64 d, .int .i64 x] w
    (RefPost w B rb (rgrantF R v f d x).2 (.tuple #[.int .i64 (rgrantF R v f d x).1.1, .int .i64 (rgrantF R v f d x).1.2])) := by
  have HS := Lib.hid (Rs.start h)
  have HZ := Lib.hid hs
  have hlt := h.lt
  have hsh := h.short
  obtain ⟨vL, c96, hrow, -⟩ := h.row
  unfold rgrantF
  obtain ⟨q1, h1⟩ : ∃ q, fragB v f = q := ⟨_, rfl⟩
  obtain ⟨q2, h2⟩ : ∃ q, extB d x = q := ⟨_, rfl⟩
  obtain ⟨lu, hlu⟩ : ∃ q, (R.L.find? (isU d x)).getD noL = q := ⟨_, rfl⟩
  obtain ⟨cu, hcu⟩ : ∃ q, (R.L.find? (isU d x)).isSome = q := ⟨_, rfl⟩
  obtain ⟨k, hk⟩ : ∃ q, findN (isF v f false) R.L = q := ⟨_, rfl⟩
  obtain ⟨km, hkm⟩ : ∃ q, findN (isF v f true) R.L = q := ⟨_, rfl⟩
  obtain ⟨n, hn⟩ : ∃ q, R.G (v, f) + 1 = q := ⟨_, rfl⟩
  obtain ⟨R', hR⟩ : ∃ q, putR R ⟨v, f, d, x, 0, true⟩ = q := ⟨_, rfl⟩
  rw [h1, h2, hcu, hk, hkm, hn, hR]
  have H1 := Lib.hid h1
  have H2 := Lib.hid h2
  have H3 := Lib.hid hlu
  have H4 := Lib.hid hcu
  have H5 := Lib.hid hk
  have H6 := Lib.hid hn
  have H7 := Lib.hid hR
  have H8 := Lib.hid hkm
  clear h hs h1 h2 hlu hcu hn hR hkm
  cases q1 with
  | false =>
    clear hrow c96
    go_enter Try.func29, Try.ntmps29
    go_wp2_with (first
      | (go_at_call 50; (with_reducible refine (rfrag_as H1.out _).mono ?_); rintro e w1 ⟨rfl, rfl⟩))
    go_ret2
    exact ⟨rfl, HS.out.rf, HS.out.below, HS.out.sep⟩
  | true =>
    cases q2 with
    | false =>
      clear hrow c96
      go_enter Try.func29, Try.ntmps29
      go_wp2_with (first
        | (go_at_call 50; (with_reducible refine (rfrag_as H1.out _).mono ?_); rintro e w1 ⟨rfl, rfl⟩)
        | (go_at_call 51; (with_reducible refine (rext_as H2.out _).mono ?_); rintro e w1 ⟨rfl, rfl⟩))
      go_ret2
      exact ⟨rfl, HS.out.rf, HS.out.below, HS.out.sep⟩
    | true =>
      by_cases hk0 : k < 0
      · have hk1 : decide (k < 0) = true := by simpa using hk0
        simp only [Bool.and_self, hk1, Bool.true_or, if_true]
        clear hrow c96 hk
        go_enter Try.func29, Try.ntmps29
        go_wp2_with (first
          | (go_at_call 50; (with_reducible refine (rfrag_as H1.out _).mono ?_); rintro e w1 ⟨rfl, rfl⟩)
          | (go_at_call 51; (with_reducible refine (rext_as H2.out _).mono ?_); rintro e w1 ⟨rfl, rfl⟩)
          | (go_at_call 52; (with_reducible refine (find_as HS.out.rf H5.out).mono ?_); rintro e w3 ⟨rfl, rfl⟩)
          | (go_at_call 47; (with_reducible refine (rat_as HS.out.rf H3.out H4.out).mono ?_); rintro e w2 ⟨rfl, hb⟩; have HS2 := Lib.hid ((HS.out.call hb).call (below_alloc _ (.cells (lc lu) 46))); clear hb))
        go_ret2
        exact ⟨rfl, HS2.out.rf, HS2.out.below, HS2.out.sep⟩
      · have hk1 : decide (k < 0) = false := by simpa using hk0
        obtain ⟨hi1, hi2⟩ := findN_lt hk (by omega)
        obtain ⟨i, hi⟩ : ∃ i, i = k.toNat := ⟨_, rfl⟩
        rw [← hi] at hi1 hi2 ⊢
        obtain ⟨l, hl⟩ : ∃ l, R.L[i]? = some l := ⟨R.L[i], by simp [hi1]⟩
        have hgd : R.L.getD i noL = l := by simp [hl]
        obtain ⟨g, cap, rfl, -, hgl, hcell⟩ := rows_at hrow hl
        have y2 := hcell 2 _ rfl
        obtain ⟨m, hm⟩ : ∃ m, m = R.L.length := ⟨_, rfl⟩
        rw [← hm] at c96 hi1 hsh
        rw [hgd]
        subst hi2
        clear hcell hrow hl hgd hk hi hm
        obtain ⟨q3, h3⟩ : ∃ q, (l.drive == d) = q := ⟨_, rfl⟩
        rw [h3]
        simp only [Bool.and_self, hk1, Bool.false_or, if_true]
        by_cases hkm : 0 ≤ km
        · have hkm1 : decide (0 ≤ km) = true := by simpa using hkm
          simp only [hkm1, Bool.true_or, if_true]
          go_enter Try.func29, Try.ntmps29
          go_wp2_with (first
            | (go_at_call 50; (with_reducible refine (rfrag_as H1.out _).mono ?_); rintro e w1 ⟨rfl, rfl⟩)
            | (go_at_call 51; (with_reducible refine (rext_as H2.out _).mono ?_); rintro e w1 ⟨rfl, rfl⟩)
            | (go_at_call 52; (with_reducible refine (find_as HS.out.rf H5.out).mono ?_); rintro e w3 ⟨rfl, rfl⟩)
            | (go_at_call 47; (with_reducible refine (rat_as HS.out.rf H3.out H4.out).mono ?_); rintro e w2 ⟨rfl, hb⟩; have HS2 := Lib.hid ((HS.out.call hb).call (below_alloc _ (.cells (lc lu) 46))); have HS3 := Lib.hid (HS.out.call hb); have C96 := (hb.cell (p := ⟨rb, 96, none⟩) hlt).trans c96; have CG := (hb.cell (p := ⟨g, i * 6 + 2, none⟩) hgl).trans y2; have hlt3 := Nat.lt_of_lt_of_le hlt hb.size; have hgl3 := Nat.lt_of_lt_of_le hgl hb.size; clear hb)
            | (go_at_call 52; (with_reducible refine (find_as HS2.out.rf H8.out).mono ?_); rintro e w3 ⟨rfl, rfl⟩)
            | (go_at_call 53; (with_reducible refine (put_as HS2.out.rf HZ.out H1.out H6.out H7.out).mono ?_); intro e w4 ho; have HS4 := Lib.hid (HS2.out.post ho).2; obtain ⟨rfl, -⟩ := ho))
          go_ret2
          exact ⟨rfl, HS2.out.rf, HS2.out.below, HS2.out.sep⟩
        · have hkm1 : decide (0 ≤ km) = false := by simpa using hkm
          simp only [hkm1, Bool.false_or]
          cases q3 with
          | true =>
            simp only [Bool.true_or, if_true]
            go_enter Try.func29, Try.ntmps29
            go_wp2_with (first
              | (go_at_call 50; (with_reducible refine (rfrag_as H1.out _).mono ?_); rintro e w1 ⟨rfl, rfl⟩)
              | (go_at_call 51; (with_reducible refine (rext_as H2.out _).mono ?_); rintro e w1 ⟨rfl, rfl⟩)
              | (go_at_call 52; (with_reducible refine (find_as HS.out.rf H5.out).mono ?_); rintro e w3 ⟨rfl, rfl⟩)
              | (go_at_call 47; (with_reducible refine (rat_as HS.out.rf H3.out H4.out).mono ?_); rintro e w2 ⟨rfl, hb⟩; have HS2 := Lib.hid ((HS.out.call hb).call (below_alloc _ (.cells (lc lu) 46))); have HS3 := Lib.hid (HS.out.call hb); have C96 := (hb.cell (p := ⟨rb, 96, none⟩) hlt).trans c96; have CG := (hb.cell (p := ⟨g, i * 6 + 2, none⟩) hgl).trans y2; have hlt3 := Nat.lt_of_lt_of_le hlt hb.size; have hgl3 := Nat.lt_of_lt_of_le hgl hb.size; clear hb)
              | (go_at_call 52; (with_reducible refine (find_as HS2.out.rf H8.out).mono ?_); rintro e w3 ⟨rfl, rfl⟩)
              | (go_at_call 53; (with_reducible refine (put_as HS2.out.rf HZ.out H1.out H6.out H7.out).mono ?_); intro e w4 ho; have HS4 := Lib.hid (HS2.out.post ho).2; obtain ⟨rfl, -⟩ := ho))
            go_ret2
            exact ⟨rfl, HS2.out.rf, HS2.out.below, HS2.out.sep⟩
          | false =>
            simp only [Bool.false_or]
            cases cu with
            | true =>
              simp only [if_true]
              go_enter Try.func29, Try.ntmps29
              go_wp2_with (first
                | (go_at_call 50; (with_reducible refine (rfrag_as H1.out _).mono ?_); rintro e w1 ⟨rfl, rfl⟩)
                | (go_at_call 51; (with_reducible refine (rext_as H2.out _).mono ?_); rintro e w1 ⟨rfl, rfl⟩)
                | (go_at_call 52; (with_reducible refine (find_as HS.out.rf H5.out).mono ?_); rintro e w3 ⟨rfl, rfl⟩)
                | (go_at_call 47; (with_reducible refine (rat_as HS.out.rf H3.out H4.out).mono ?_); rintro e w2 ⟨rfl, hb⟩; have HS2 := Lib.hid ((HS.out.call hb).call (below_alloc _ (.cells (lc lu) 46))); have HS3 := Lib.hid (HS.out.call hb); have C96 := (hb.cell (p := ⟨rb, 96, none⟩) hlt).trans c96; have CG := (hb.cell (p := ⟨g, i * 6 + 2, none⟩) hgl).trans y2; have hlt3 := Nat.lt_of_lt_of_le hlt hb.size; have hgl3 := Nat.lt_of_lt_of_le hgl hb.size; clear hb)
                | (go_at_call 52; (with_reducible refine (find_as HS2.out.rf H8.out).mono ?_); rintro e w3 ⟨rfl, rfl⟩)
                | (go_at_call 53; (with_reducible refine (put_as HS2.out.rf HZ.out H1.out H6.out H7.out).mono ?_); intro e w4 ho; have HS4 := Lib.hid (HS2.out.post ho).2; obtain ⟨rfl, -⟩ := ho))
              go_ret2
              exact ⟨rfl, HS2.out.rf, HS2.out.below, HS2.out.sep⟩
            | false =>
              simp only [Bool.false_eq_true, if_false]
              go_enter Try.func29, Try.ntmps29
              go_wp2_with (first
                | (go_at_call 50; (with_reducible refine (rfrag_as H1.out _).mono ?_); rintro e w1 ⟨rfl, rfl⟩)
                | (go_at_call 51; (with_reducible refine (rext_as H2.out _).mono ?_); rintro e w1 ⟨rfl, rfl⟩)
                | (go_at_call 52; (with_reducible refine (find_as HS.out.rf H5.out).mono ?_); rintro e w3 ⟨rfl, rfl⟩)
                | (go_at_call 47; (with_reducible refine (rat_as HS.out.rf H3.out H4.out).mono ?_); rintro e w2 ⟨rfl, hb⟩; have HS2 := Lib.hid ((HS.out.call hb).call (below_alloc _ (.cells (lc lu) 46))); have HS3 := Lib.hid (HS.out.call hb); have C96 := (hb.cell (p := ⟨rb, 96, none⟩) hlt).trans c96; have CG := (hb.cell (p := ⟨g, i * 6 + 2, none⟩) hgl).trans y2; have hlt3 := Nat.lt_of_lt_of_le hlt hb.size; have hgl3 := Nat.lt_of_lt_of_le hgl hb.size; clear hb)
                | (go_at_call 52; (with_reducible refine (find_as HS2.out.rf H8.out).mono ?_); rintro e w3 ⟨rfl, rfl⟩)
                | (go_at_call 53; (with_reducible refine (put_as HS2.out.rf HZ.out H1.out H6.out H7.out).mono ?_); intro e w4 ho; have HS4 := Lib.hid (HS2.out.post ho).2; obtain ⟨rfl, -⟩ := ho))
              go_ret2
              exact ⟨rfl, HS4.out.rf, HS4.out.below, HS4.out.sep⟩
end Go.Proofs.Ytnhpjmjinchamaa
