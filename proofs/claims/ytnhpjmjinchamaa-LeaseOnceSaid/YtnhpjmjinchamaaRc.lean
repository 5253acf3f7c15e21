/- The walks of Before and put. -/
import Derived.Test.YtnhpjmjinchamaaRb
set_option linter.unusedVariables false
set_option linter.unusedSimpArgs false
set_option linter.unnecessarySimpa false
namespace Go.Proofs.Ytnhpjmjinchamaa
open Go Go.RowKit

def beforeB (a b : Ls) : Bool := if a.vol != b.vol then decide (a.vol < b.vol) else if a.frag != b.frag then decide (a.frag < b.frag) else !a.mov && b.mov

theorem before_any (a b : Ls) (w : World) : Calls Try.prog 63 #[lv a, lv b] w fun e w' => e = .returned (.bool (beforeB a b)) ∧ Below w.heap.size w w' := by
  unfold beforeB
  have hb : Below w.heap.size w ((w.alloc (.cells (lc a) 46)).alloc (.cells (lc b) 46)) := ((Below.refl _ _).alloc (Nat.le_refl _) _).alloc (by simp) _
  have HB := Lib.hid hb
  clear hb
  obtain ⟨q1, h1⟩ : ∃ q, (a.vol != b.vol) = q := ⟨_, rfl⟩
  obtain ⟨q2, h2⟩ : ∃ q, (a.frag != b.frag) = q := ⟨_, rfl⟩
  obtain ⟨av, af, ad, ax, ag, am⟩ := a
  obtain ⟨bv, bf, bd, bx, bg, bm⟩ := b
  simp only at h1 h2 ⊢
  rw [h1, h2]
  cases q1 with
  | true =>
    go_enter Try.func63, Try.ntmps63
    go_wp2
    go_ret
    exact ⟨rfl, HB.out⟩
  | false =>
    cases q2 with
    | true =>
      go_enter Try.func63, Try.ntmps63
      go_wp2
      go_ret
      exact ⟨rfl, HB.out⟩
    | false =>
      cases am <;> cases bm
      all_goals
        go_enter Try.func63, Try.ntmps63
        go_wp2
        go_ret
        exact ⟨rfl, HB.out⟩
theorem before_as {a b : Ls} {q : Bool} (h : beforeB a b = q) (w : World) : Calls Try.prog 63 #[lv a, lv b] w fun e w' => e = .returned (.bool q) ∧ Below w.heap.size w w' := h ▸ before_any a b w

def insL (L : List Ls) (x : Ls) : List Ls := L.takeWhile (beforeB · x) ++ x :: L.dropWhile (beforeB · x)
theorem while_at {p : Ls → Bool} : ∀ (L : List Ls) (k : Nat), (∀ (j : Nat) (y : Ls), j < k → L[j]? = some y → p y = true) → (∀ y, L[k]? = some y → p y = false) → L.takeWhile p = L.take k ∧ L.dropWhile p = L.drop k
  | [], k, _, _ => by simp
  | y :: L, 0, _, h => by
    have := h y rfl
    simp [this]
  | y :: L, k + 1, h1, h2 => by
    have h0 := h1 0 y (by omega) rfl
    have ih := while_at L k (fun j z hj hz => h1 (j + 1) z (by omega) (by simpa using hz)) (fun z hz => h2 z (by simpa using hz))
    simp [h0, ih]

theorem RfAt.setG {w : World} {B rb : Nat} {R : Rf} (h : RfAt w B rb R) (v f : Nat) (hv : v < 12) (hf : f < 8) (n : Int) :
    RfAt (w.setCell ⟨rb, v * 8 + f, none⟩ (.int .i64 n)) B rb { R with G := upd R.G ((v : Int), (f : Int)) n } ∧ Only [rb] w (w.setCell ⟨rb, v * 8 + f, none⟩ (.int .i64 n)) := by
  obtain ⟨vL, h1, h2, h3⟩ := h.row
  have oth : ∀ i, i ≠ v * 8 + f → (w.setCell ⟨rb, v * 8 + f, none⟩ (.int .i64 n)).cell? ⟨rb, i, none⟩ = w.cell? ⟨rb, i, none⟩ := fun i hi => World.cell?_setCell_other _ _ _ _ (by simpa using fun h => hi h.symm)
  refine ⟨⟨h.base, by simpa using h.lt, fun v' f' hv' hf' => ?_, ⟨vL, (oth _ (by omega)).trans h1, owns_same h2 fun k hk => Below.heap_setCell _ _ _ _ ?_, h3⟩, (oth _ (by omega)).trans h.num, (oth _ (by omega)).trans h.cnt, h.thaw.setCell _ _, h.short⟩, (Only.refl _ _).setCell (.inl (by simp)) _ _⟩
  · by_cases e : v' = v ∧ f' = f
    · obtain ⟨rfl, rfl⟩ := e
      rw [World.cell?_setCell_same _ _ _ (h.giv v' f' hv hf)]
      simp [upd]
    · have hne : v' * 8 + f' ≠ v * 8 + f := by omega
      rw [oth _ hne, h.giv v' f' hv' hf']
      have : ((v' : Int), (f' : Int)) ≠ ((v : Int), (f : Int)) := by
        simp only [ne_eq, Prod.mk.injEq]; omega
      show some (Value.int .i64 (R.G ((v' : Int), (f' : Int)))) = some (Value.int .i64 (upd R.G ((v : Int), (f : Int)) n ((v' : Int), (f' : Int))))
      rw [upd_other R.G n this]
  · intro e
    exact h3 (by rw [hk]; exact congrArg some e)

/-- the worlds behind put's first statements -/
structure PutS (w : World) (B rb : Nat) (R : Rf) (b0 : Nat) (x : Ls) (w' : World) : Prop where
  rf : RfAt w' B rb R
  box : Holds w' b0 (lc x)
  below : Only [rb] w w'
  ne : rb ≠ b0
  sep : ∀ vL, w'.cell? ⟨rb, 96, none⟩ = some vL → vL.ownBlock ≠ some b0
  base : w.heap.size ≤ b0
namespace PutS
variable {w w1 w' : World} {B rb : Nat} {R : Rf} {b0 : Nat} {x : Ls}
theorem grow (h : PutS w B rb R b0 x w1) (hb : Below w1.heap.size w1 w') : PutS w B rb R b0 x w' :=
  ⟨h.rf.below hb, h.box.keep hb, h.below.trans (Only.of_below _ hb), h.ne, fun vL hv => h.sep vL ((hb.cell (p := ⟨rb, 96, none⟩) h.rf.lt).symm.trans hv), h.base⟩
theorem stable : Stable (PutS w B rb R b0 x) := fun _ _ h hb => h.grow hb
theorem start (h : RfAt w B rb R) (x : Ls) : PutS w B rb R w.heap.size x (w.alloc (.cells (lc x) 46)) := by
  have hb := below_alloc w (.cells (lc x) 46)
  refine ⟨h.below hb, Holds.new _ _ _, Only.of_below _ hb, by have := h.lt; omega, fun vL hv q => ?_, Nat.le_refl _⟩
  obtain ⟨vL', h1, h2, _⟩ := h.row
  have e := (hb.cell (p := ⟨rb, 96, none⟩) h.lt).trans h1
  rw [hv] at e
  cases e
  have := (h2.lt _ q).2
  omega
theorem setG (h : PutS w B rb R b0 x w1) (v f : Nat) (hv : v < 12) (hf : f < 8) (n : Int) : PutS w B rb { R with G := upd R.G ((v : Int), (f : Int)) n } b0 x (w1.setCell ⟨rb, v * 8 + f, none⟩ (.int .i64 n)) := by
  obtain ⟨k1, k2⟩ := h.rf.setG v f hv hf n
  refine ⟨k1, h.box.other h.ne _ _, h.below.trans k2, h.ne, fun vL hvL => h.sep vL ?_, h.base⟩
  rw [← hvL]
  exact (World.cell?_setCell_other _ _ _ _ (by simp)).symm
theorem setGen (h : PutS w B rb R b0 x w1) (n : Int) : PutS w B rb R b0 { x with gen := n } (w1.setCell ⟨b0, 4, none⟩ (.int .i64 n)) := by
  have oth : ∀ i, (w1.setCell ⟨b0, 4, none⟩ (.int .i64 n)).cell? ⟨rb, i, none⟩ = w1.cell? ⟨rb, i, none⟩ := fun i => World.cell?_setCell_other _ _ _ _ (by simpa using fun e => absurd e.symm h.ne)
  obtain ⟨vL, h1, h2, h3⟩ := h.rf.row
  refine ⟨⟨h.rf.base, by simpa using h.rf.lt, fun v' f' hv' hf' => (oth _).trans (h.rf.giv v' f' hv' hf'), ⟨vL, (oth _).trans h1, owns_same h2 fun k hk => Below.heap_setCell _ _ _ _ ?_, h3⟩, (oth _).trans h.rf.num, (oth _).trans h.rf.cnt, h.rf.thaw.setCell _ _, h.rf.short⟩, h.box.set 4 _, h.below.setCell (.inr h.base) _ _, h.ne, fun vL' hvL => h.sep vL' ((oth _).symm.trans hvL), h.base⟩
  intro e
  exact h.sep vL h1 (by rw [hk]; exact congrArg some e)
end PutS



set_option maxRecDepth 20000 in
set_option maxHeartbeats 4000000 in
theorem put_any {w : World} {B rb : Nat} {R : Rf} (h : RfAt w B rb R) (v f : Nat) (hv : v < 12) (hf : f < 8) (d e g0 : Int) (mv : Bool) (hg1 : 0 ≤ R.G ((v : Int), (f : Int))) (hg2 : R.G ((v : Int), (f : Int)) ≤ 4611686018427387904) (hlen : R.L.length ≤ 999) :
    Calls Try.prog 53 #[.pointer (some ⟨rb, 0, none⟩), lv ⟨v, f, d, e, g0, mv⟩] w
      (RefPost w B rb { R with G := upd R.G ((v : Int), (f : Int)) (R.G ((v : Int), (f : Int)) + 1), L := insL R.L ⟨v, f, d, e, R.G ((v : Int), (f : Int)) + 1, mv⟩ } (.int .i64 (R.G ((v : Int), (f : Int)) + 1))) := by
  obtain ⟨G, hG⟩ : ∃ G, R.G ((v : Int), (f : Int)) = G := ⟨_, rfl⟩
  rw [hG] at hg1 hg2 ⊢
  have HG := Lib.hid hG
  have HP : Hid (PutS w B rb R w.heap.size ⟨v, f, d, e, g0, mv⟩ (w.alloc (.cells #[.int .i64 v, .int .i64 f, .int .i64 d, .int .i64 e, .int .i64 g0, .bool mv] 46))) := PutS.start h _
  have hw : IntKind.i64.wrap (G + 1) = G + 1 := IntWalk.i64_in _ (by omega)
  clear h hG
  go_enter Try.func53, Try.ntmps53
  go_wp2_with fail
  generalize w.alloc (.cells #[.int .i64 v, .int .i64 f, .int .i64 d, .int .i64 e, .int .i64 g0, .bool mv] 46) = w1 at *
  obtain ⟨b0, b1, b2, b3, b4, b5, bf0, bf1, bf2, bf3, bf4, bf5, bl⟩ := HP.out.box.lay6
  have hgiv := HP.out.rf.giv v f hv hf
  rw [HG.out] at hgiv
  have hth := HP.out.rf.thaw (v * 8 + f)
  have hlt := HP.out.rf.lt
  have hv2 : (v : Int) < 12 := by omega
  have hf2 : (f : Int) < 8 := by omega
  go_still_tail 14, (by kernel_rfl)
  go_wp2
  clear hgiv hth hlt b0 b1 b2 b3 b4 b5 bf0 bf1 bf2 bf3 bf4 bf5 bl
  have HP2 := Lib.hid ((HP.out.setG v f hv hf (G + 1)).grow (w' := (w1.setCell ⟨rb, v * 8 + f, none⟩ (.int .i64 (G + 1))).drew) (Below.refl _ _).drew)
  generalize (w1.setCell ⟨rb, v * 8 + f, none⟩ (.int .i64 (G + 1))).drew = w2 at *
  obtain ⟨b0, b1, b2, b3, b4, b5, bf0, bf1, bf2, bf3, bf4, bf5, bl⟩ := HP2.out.box.lay6
  have hgiv : w2.cell? ⟨rb, v * 8 + f, none⟩ = some (.int .i64 (G + 1)) := by
    have := HP2.out.rf.giv v f hv hf
    rw [show ({ R with G := upd R.G ((v : Int), (f : Int)) (G + 1) } : Rf).G ((v : Int), (f : Int)) = G + 1 from upd_same _ _ _] at this
    exact this
  have hlt := HP2.out.rf.lt
  go_still_tail 10, (by kernel_rfl)
  go_wp2
  clear hgiv hlt b0 b1 b2 b3 b4 b5 bf0 bf1 bf2 bf3 bf4 bf5 bl
  have HP3 := Lib.hid ((HP2.out.setGen (G + 1)).grow (w' := (w2.setCell ⟨w.heap.size, 4, none⟩ (.int .i64 (G + 1))).drew) (Below.refl _ _).drew)
  generalize (w2.setCell ⟨w.heap.size, 4, none⟩ (.int .i64 (G + 1))).drew = w3 at *
  obtain ⟨x', hx'⟩ : ∃ x' : Ls, x' = ⟨v, f, d, e, G + 1, mv⟩ := ⟨_, rfl⟩
  change Hid (PutS w B rb _ w.heap.size ⟨v, f, d, e, G + 1, mv⟩ w3) at HP3
  rw [← hx'] at HP3 ⊢
  have HX := Lib.hid hx'
  clear hx' HP HP2
  obtain ⟨n, hn⟩ : ∃ n, n = R.L.length := ⟨_, rfl⟩
  have HN := Lib.hid hn
  rw [← hn] at hlen
  clear hn
  go_loopw [5] (fun kk wr => ∃ k : Nat, kk = .int .i64 k ∧ k ≤ n ∧ Hid (∀ (j : Nat) (y : Ls), j < k → R.L[j]? = some y → beforeB y x' = true) ∧ Hid (PutS w B rb { R with G := upd R.G ((v : Int), (f : Int)) (G + 1) } w.heap.size x' wr)) (fun kk _ => n - (intOf kk).toNat)
  case atStart => exact ⟨0, rfl, by omega, fun j y hj => by omega, HP3⟩
  case round =>
    rename World => wr
    obtain ⟨k, rfl, hk, HB, HP⟩ := hrel
    clear HP3
    obtain ⟨vL, c96, hrow, -⟩ := HP.out.rf.row
    have hrow2 : wr.ownsRow B 46 6 vL n (flat R.L) := by have := hrow; unfold Rows at this; rw [← HN.out] at this; exact this
    obtain ⟨a0, cap, rfl⟩ := owns_val hrow2
    have hlt := HP.out.rf.lt
    obtain ⟨b0, b1, b2, b3, b4, b5, bf0, bf1, bf2, bf3, bf4, bf5, bl⟩ := HP.out.box.lay6
    have HR := Lib.hid hrow2
    clear hrow hrow2
    by_cases hkn : k < n
    · obtain ⟨l, hl⟩ : ∃ l, R.L[k]? = some l := ⟨R.L[k]'(by have := HN.out; omega), by simp⟩
      obtain ⟨g, cap', he, -, hgl, hcell⟩ := rows_at (B := B) (w := wr) (vL := .slice a0 n cap) (L := R.L) (by have := HR.out; rw [HN.out] at this ⊢; exact this) hl
      rw [← HN.out] at he
      cases he
      have y0 := hcell 0 _ rfl
      have y1 := hcell 1 _ rfl
      have y2 := hcell 2 _ rfl
      have y3 := hcell 3 _ rfl
      have y4 := hcell 4 _ rfl
      have y5 := hcell 5 _ rfl
      simp only [Nat.add_zero] at y0
      have HL := Lib.hid hl
      clear hcell hl
      cases hq : beforeB l x' with
      | true =>
        have HQ := Lib.hid hq
        clear hq
        go_wp2_with fail
        refine wp_region_grow (Below wr.heap.size wr) (by kernel_rfl) ?_ (Below.refl _ _).drew ?_
        · kernel_rfl
        have hk2 : decide (k < n) = true := by simpa using hkn
        repeat first
                 | (apply gRow_plain
                    · exact rfl
                    · intro wg hg
                      ((have d96 := (hg.cell (p := ⟨rb, 96, none⟩) hlt).trans c96; have z0 := (hg.cell (p := ⟨g, k * 6, none⟩) hgl).trans y0; have z1 := (hg.cell (p := ⟨g, k * 6 + 1, none⟩) hgl).trans y1; have z2 := (hg.cell (p := ⟨g, k * 6 + 2, none⟩) hgl).trans y2; have z3 := (hg.cell (p := ⟨g, k * 6 + 3, none⟩) hgl).trans y3; have z4 := (hg.cell (p := ⟨g, k * 6 + 4, none⟩) hgl).trans y4; have z5 := (hg.cell (p := ⟨g, k * 6 + 5, none⟩) hgl).trans y5; have x0 := (hg.cell (p := ⟨w.heap.size, 0, none⟩) bl).trans b0; have x1 := (hg.cell (p := ⟨w.heap.size, 1, none⟩) bl).trans b1; have x2 := (hg.cell (p := ⟨w.heap.size, 2, none⟩) bl).trans b2; have x3 := (hg.cell (p := ⟨w.heap.size, 3, none⟩) bl).trans b3; have x4 := (hg.cell (p := ⟨w.heap.size, 4, none⟩) bl).trans b4; have x5 := (hg.cell (p := ⟨w.heap.size, 5, none⟩) bl).trans b5))
                      go_simp
                      first
                        | exact rfl
                        | exact hg
                        | exact ⟨hg, rfl⟩
                        | ((refine (before_as HQ.out _).mono ?_; rintro e w' ⟨rfl, hb⟩; exact ⟨rfl, hg.trans (hb.mono hg.size)⟩))
                    intro K hK
                    go_simp
                    refine hK _ ?_
                    clear hK K)
                 | (apply gRow_step
                    · go_simp; done
                    · intro wg hg
                      ((have d96 := (hg.cell (p := ⟨rb, 96, none⟩) hlt).trans c96; have z0 := (hg.cell (p := ⟨g, k * 6, none⟩) hgl).trans y0; have z1 := (hg.cell (p := ⟨g, k * 6 + 1, none⟩) hgl).trans y1; have z2 := (hg.cell (p := ⟨g, k * 6 + 2, none⟩) hgl).trans y2; have z3 := (hg.cell (p := ⟨g, k * 6 + 3, none⟩) hgl).trans y3; have z4 := (hg.cell (p := ⟨g, k * 6 + 4, none⟩) hgl).trans y4; have z5 := (hg.cell (p := ⟨g, k * 6 + 5, none⟩) hgl).trans y5; have x0 := (hg.cell (p := ⟨w.heap.size, 0, none⟩) bl).trans b0; have x1 := (hg.cell (p := ⟨w.heap.size, 1, none⟩) bl).trans b1; have x2 := (hg.cell (p := ⟨w.heap.size, 2, none⟩) bl).trans b2; have x3 := (hg.cell (p := ⟨w.heap.size, 3, none⟩) bl).trans b3; have x4 := (hg.cell (p := ⟨w.heap.size, 4, none⟩) bl).trans b4; have x5 := (hg.cell (p := ⟨w.heap.size, 5, none⟩) bl).trans b5))
                      go_simp
                      first
                        | exact rfl
                        | exact hg
                        | exact ⟨hg, rfl⟩
                        | ((refine (before_as HQ.out _).mono ?_; rintro e w' ⟨rfl, hb⟩; exact ⟨rfl, hg.trans (hb.mono hg.size)⟩))
                    intro K hK
                    go_simp
                    refine hK _ ?_
                    clear hK K)
                 | (apply gRow_not
                    · go_simp; done
                    intro K hK
                    go_simp
                    refine hK _ ?_
                    clear hK K)
        refine gRow_nil ?_
        intro wr2 hb2
        have HP2 := Lib.hid (HP.out.grow hb2)
        clear hb2
        go_wp2_with fail
        go_roundw
        case rel =>
          refine ⟨k + 1, by go_num, by omega, fun j y hj hy => ?_, HP2⟩
          by_cases q : j < k
          · exact HB.out j y q hy
          · obtain rfl : j = k := by omega
            have := HL.out
            rw [hy] at this
            cases this
            exact HQ.out
        case measure => simp [intOf]; omega
      | false =>
        have HQ := Lib.hid hq
        clear hq
        go_wp2_with fail
        refine wp_region_grow (Below wr.heap.size wr) (by kernel_rfl) ?_ (Below.refl _ _).drew ?_
        · kernel_rfl
        have hk2 : decide (k < n) = true := by simpa using hkn
        repeat first
                 | (apply gRow_plain
                    · exact rfl
                    · intro wg hg
                      ((have d96 := (hg.cell (p := ⟨rb, 96, none⟩) hlt).trans c96; have z0 := (hg.cell (p := ⟨g, k * 6, none⟩) hgl).trans y0; have z1 := (hg.cell (p := ⟨g, k * 6 + 1, none⟩) hgl).trans y1; have z2 := (hg.cell (p := ⟨g, k * 6 + 2, none⟩) hgl).trans y2; have z3 := (hg.cell (p := ⟨g, k * 6 + 3, none⟩) hgl).trans y3; have z4 := (hg.cell (p := ⟨g, k * 6 + 4, none⟩) hgl).trans y4; have z5 := (hg.cell (p := ⟨g, k * 6 + 5, none⟩) hgl).trans y5; have x0 := (hg.cell (p := ⟨w.heap.size, 0, none⟩) bl).trans b0; have x1 := (hg.cell (p := ⟨w.heap.size, 1, none⟩) bl).trans b1; have x2 := (hg.cell (p := ⟨w.heap.size, 2, none⟩) bl).trans b2; have x3 := (hg.cell (p := ⟨w.heap.size, 3, none⟩) bl).trans b3; have x4 := (hg.cell (p := ⟨w.heap.size, 4, none⟩) bl).trans b4; have x5 := (hg.cell (p := ⟨w.heap.size, 5, none⟩) bl).trans b5))
                      go_simp
                      first
                        | exact rfl
                        | exact hg
                        | exact ⟨hg, rfl⟩
                        | ((refine (before_as HQ.out _).mono ?_; rintro e w' ⟨rfl, hb⟩; exact ⟨rfl, hg.trans (hb.mono hg.size)⟩))
                    intro K hK
                    go_simp
                    refine hK _ ?_
                    clear hK K)
                 | (apply gRow_step
                    · go_simp; done
                    · intro wg hg
                      ((have d96 := (hg.cell (p := ⟨rb, 96, none⟩) hlt).trans c96; have z0 := (hg.cell (p := ⟨g, k * 6, none⟩) hgl).trans y0; have z1 := (hg.cell (p := ⟨g, k * 6 + 1, none⟩) hgl).trans y1; have z2 := (hg.cell (p := ⟨g, k * 6 + 2, none⟩) hgl).trans y2; have z3 := (hg.cell (p := ⟨g, k * 6 + 3, none⟩) hgl).trans y3; have z4 := (hg.cell (p := ⟨g, k * 6 + 4, none⟩) hgl).trans y4; have z5 := (hg.cell (p := ⟨g, k * 6 + 5, none⟩) hgl).trans y5; have x0 := (hg.cell (p := ⟨w.heap.size, 0, none⟩) bl).trans b0; have x1 := (hg.cell (p := ⟨w.heap.size, 1, none⟩) bl).trans b1; have x2 := (hg.cell (p := ⟨w.heap.size, 2, none⟩) bl).trans b2; have x3 := (hg.cell (p := ⟨w.heap.size, 3, none⟩) bl).trans b3; have x4 := (hg.cell (p := ⟨w.heap.size, 4, none⟩) bl).trans b4; have x5 := (hg.cell (p := ⟨w.heap.size, 5, none⟩) bl).trans b5))
                      go_simp
                      first
                        | exact rfl
                        | exact hg
                        | exact ⟨hg, rfl⟩
                        | ((refine (before_as HQ.out _).mono ?_; rintro e w' ⟨rfl, hb⟩; exact ⟨rfl, hg.trans (hb.mono hg.size)⟩))
                    intro K hK
                    go_simp
                    refine hK _ ?_
                    clear hK K)
                 | (apply gRow_not
                    · go_simp; done
                    intro K hK
                    go_simp
                    refine hK _ ?_
                    clear hK K)
        refine gRow_nil ?_
        intro wr2 hb2
        have HP2 := Lib.hid (HP.out.grow hb2)
        have C96 := Lib.hid ((hb2.cell (p := ⟨rb, 96, none⟩) hlt).trans c96)
        have HR2 := Lib.hid (owns_below HR.out hb2)
        have HNB : Hid (∀ y, R.L[k]? = some y → beforeB y x' = false) := fun y hy => by
          have := HL.out
          rw [hy] at this
          cases this
          exact HQ.out
        clear hb2 c96 HR
        go_wp2_with fail
        have hkc : k ≤ cap ∧ cap ≤ 9223372036854775807 := by
          rcases HR2.out.2 with ⟨h0, _⟩ | ⟨g', cap', cur, he, _, _, h1, h2, _⟩
          · cases h0
          · cases he; unfold maxLen at h2; omega
        obtain ⟨hic, hcm⟩ := hkc
        have hin : k ≤ n := by omega
        have hin2 : (k : Int) ≤ (n : Int) := by omega
        obtain ⟨sa, hif⟩ : ∃ sa, (if cap = k then some (⟨g, 0, none⟩ : Addr) else some ⟨g, k * 6, none⟩) = sa := ⟨_, rfl⟩
        have HS1 := Lib.hid (show Src wr2 (.slice (some ⟨g, 0, none⟩) k cap) 6 k (flat (R.L.take k)) by
          rw [← flat_take]
          exact src_take HR2.out (flat_one _) hin cap)
        have HS2 := Lib.hid (show Src wr2 (.slice sa (n - k) (cap - k)) 6 (n - k) (flat (R.L.drop k)) by
          have hcap : n ≤ cap := by
            rcases HR2.out.2 with ⟨h0, _⟩ | ⟨g', cap', cur, he, _, _, h1, h2, _⟩
            · cases h0
            · cases he; exact h1
          rw [← hif, if_neg (by omega), ← flat_drop]
          exact src_drop HR2.out (flat_one _) hkn _)
        clear y0 y1 y2 y3 y4 y5
        (have HW := Lib.hid (while_at R.L k HB.out HNB.out)
         obtain ⟨TK, hTK⟩ : ∃ l, flat (R.L.take k) = l := ⟨_, rfl⟩
         obtain ⟨DR, hDR⟩ : ∃ l, flat (R.L.drop k) = l := ⟨_, rfl⟩
         rw [hTK] at HS1
         rw [hDR] at HS2
         have HL' : Hid ((insL R.L x').length = k + 1 + (n - k) ∧ flat (insL R.L x') = TK ++ (lc x').toList ++ DR) := by
           obtain ⟨h1, h2⟩ := HW.out
           have := HN.out
           rw [← hTK, ← hDR]
           unfold insL
           rw [h1, h2]
           refine ⟨by rw [List.length_append, List.length_cons, List.length_take, List.length_drop]; omega, ?_⟩
           rw [flat_append, show x' :: R.L.drop k = [x'] ++ R.L.drop k from rfl, flat_append]
           simp [flat]
         clear hTK hDR
         have HLL := Lib.hid (show (insL R.L x').length ≤ 1000 by rw [HL'.out.1]; omega)
         have hm1 : 0 + k ≤ 10000 := by omega
         have hm2 : k + 1 ≤ 10000 := by omega
         have hm3 : k + 1 + (n - k) ≤ 10000 := by omega
         have hlt2 := HP2.out.rf.lt
         have bl2 := HP2.out.box.lt
         have B4 := Lib.hid (show wr2.cell? ⟨w.heap.size, 4, none⟩ = some (.int .i64 (G + 1)) by
           have := HP2.out.box.cell 4 _ rfl
           rw [HX.out] at this
           exact this)
         clear b0 b1 b2 b3 b4 b5 bf0 bf1 bf2 bf3 bf4 bf5 bl hlt
         obtain ⟨b0, b1, b2, b3, b4, b5, -⟩ := HP2.out.box.lay6
         refine wp_region_pick_tail (Below wr2.heap.size wr2) (AS wr2 46 6 (.slice none 0 0) 0 [] []) [0, 1, 2, 3, 4, 5, 6, 8, 11, 12, 13, 14, 15, 16] 4 18 (by kernel_rfl) ?_ AS.stable AS.base (AS.start wr2 46 6) ?_
         · kernel_rfl
         repeat (apply pRow_plain
                 · exact rfl
                 · exact rfl
                 · intro wg hg
                   ((have d96 := (hg.cell (p := ⟨rb, 96, none⟩) hlt2).trans C96.out; have x0 := (hg.cell (p := ⟨w.heap.size, 0, none⟩) bl2).trans b0; have x1 := (hg.cell (p := ⟨w.heap.size, 1, none⟩) bl2).trans b1; have x2 := (hg.cell (p := ⟨w.heap.size, 2, none⟩) bl2).trans b2; have x3 := (hg.cell (p := ⟨w.heap.size, 3, none⟩) bl2).trans b3; have x4 := (hg.cell (p := ⟨w.heap.size, 4, none⟩) bl2).trans b4; have x5 := (hg.cell (p := ⟨w.heap.size, 5, none⟩) bl2).trans b5))
                   go_simp
                   first
                     | exact rfl
                     | exact Below.refl _ _
                     | exact ⟨Below.refl _ _, rfl⟩
                     | ((fail))
                 intro K hK
                 go_simp
                 refine hK _ ?_
                 clear hK K)
         clear b0 b1 b2 b3 b4 b5
         refine pRow_nil ?_
         refine lAnyL_step [7, 9] ?_ (by simp) (by decide) ?_
         · kernel_rfl
         intro j hj
         have hj' : j = 7 ∨ j = 9 := by simpa using hj
         rcases hj' with rfl | rfl
         · refine lOp_app elt37 _ _ rfl rfl rfl rfl rfl (fun wg hg => HS1.out.below hg.below) hm1 ?_
           intro u1
           go_simp
           refine lAnyL_step [9] ?_ (by simp) (by decide) ?_
           · kernel_rfl
           intro j hj
           obtain rfl : j = 9 := by simpa using hj
           refine lOp_build (lc x') rfl rfl (fun w => by go_simp) ?_
           intro bx
           go_simp
           (refine lAnyL_step [10] ?_ (by simp) (by decide) ?_
            · kernel_rfl
            intro j hj
            obtain rfl : j = 10 := by simpa using hj
            refine lOp_app elt37 _ _ rfl rfl rfl rfl rfl (fun wg hg => hg.src (c := lc x') (by simp) rfl (by intro u hu; simp at hu; rcases hu with rfl | rfl | rfl | rfl | rfl | rfl <;> rfl)) hm2 ?_
            intro u2
            go_simp
            refine lAnyL_step [17] ?_ (by simp) (by decide) ?_
            · kernel_rfl
            intro j hj
            obtain rfl : j = 17 := by simpa using hj
            refine lOp_app elt37 _ _ rfl rfl rfl rfl rfl (fun wg hg => HS2.out.below hg.below) hm3 ?_
            intro u3
            go_simp
            refine ⟨?_, ?_⟩
            · kernel_rfl
            intro wg hg
            obtain ⟨ua, ucap, rfl⟩ := owns_val hg.row
            have HG2 := Lib.hid hg
            have d96 := (hg.below.cell (p := ⟨rb, 96, none⟩) hlt2).trans C96.out
            have e96 := (hg.below.frozen (p := ⟨rb, 96, none⟩) hlt2).trans (HP2.out.rf.thaw 96)
            have e4 := (hg.below.cell (p := ⟨w.heap.size, 4, none⟩) bl2).trans B4.out
            have HNE := Lib.hid HP2.out.ne
            have hne2 : ¬ rb = w.heap.size := HNE.out
            clear hg
            go_wp2
            go_ret
            obtain ⟨q1, q2⟩ := HL'.out
            try simp only [Nat.zero_add, Nat.sub_self, Nat.add_zero] at q1
            have ho := HG2.out.row
            simp only [List.append_assoc, List.cons_append, List.nil_append] at ho q2
            rw [← q2] at ho
            rw [← q1] at ho
            obtain ⟨k1, k2, k3⟩ := HP2.out.rf.row' HG2.out.below ho HLL.out
            rw [q1] at k1 k2 k3
            rw [← HX.out]
            exact ⟨rfl, k1, HP2.out.below.trans k2, fun b hb _ => k3 b (Nat.lt_of_lt_of_le hb HP2.out.below.size)⟩)
         · refine lOp_build (lc x') rfl rfl (fun w => by go_simp) ?_
           intro bx
           go_simp
           refine lAnyL_step [7] ?_ (by simp) (by decide) ?_
           · kernel_rfl
           intro j hj
           obtain rfl : j = 7 := by simpa using hj
           refine lOp_app elt37 _ _ rfl rfl rfl rfl rfl (fun wg hg => HS1.out.below hg.below) hm1 ?_
           intro u1
           go_simp
           (refine lAnyL_step [10] ?_ (by simp) (by decide) ?_
            · kernel_rfl
            intro j hj
            obtain rfl : j = 10 := by simpa using hj
            refine lOp_app elt37 _ _ rfl rfl rfl rfl rfl (fun wg hg => hg.src (c := lc x') (by simp) rfl (by intro u hu; simp at hu; rcases hu with rfl | rfl | rfl | rfl | rfl | rfl <;> rfl)) hm2 ?_
            intro u2
            go_simp
            refine lAnyL_step [17] ?_ (by simp) (by decide) ?_
            · kernel_rfl
            intro j hj
            obtain rfl : j = 17 := by simpa using hj
            refine lOp_app elt37 _ _ rfl rfl rfl rfl rfl (fun wg hg => HS2.out.below hg.below) hm3 ?_
            intro u3
            go_simp
            refine ⟨?_, ?_⟩
            · kernel_rfl
            intro wg hg
            obtain ⟨ua, ucap, rfl⟩ := owns_val hg.row
            have HG2 := Lib.hid hg
            have d96 := (hg.below.cell (p := ⟨rb, 96, none⟩) hlt2).trans C96.out
            have e96 := (hg.below.frozen (p := ⟨rb, 96, none⟩) hlt2).trans (HP2.out.rf.thaw 96)
            have e4 := (hg.below.cell (p := ⟨w.heap.size, 4, none⟩) bl2).trans B4.out
            have HNE := Lib.hid HP2.out.ne
            have hne2 : ¬ rb = w.heap.size := HNE.out
            clear hg
            go_wp2
            go_ret
            obtain ⟨q1, q2⟩ := HL'.out
            try simp only [Nat.zero_add, Nat.sub_self, Nat.add_zero] at q1
            have ho := HG2.out.row
            simp only [List.append_assoc, List.cons_append, List.nil_append] at ho q2
            rw [← q2] at ho
            rw [← q1] at ho
            obtain ⟨k1, k2, k3⟩ := HP2.out.rf.row' HG2.out.below ho HLL.out
            rw [q1] at k1 k2 k3
            rw [← HX.out]
            exact ⟨rfl, k1, HP2.out.below.trans k2, fun b hb _ => k3 b (Nat.lt_of_lt_of_le hb HP2.out.below.size)⟩))
    · have hk3 : decide (k < n) = false := by simpa using hkn
      go_wp2_with fail
      refine wp_region_grow (Below wr.heap.size wr) (by kernel_rfl) ?_ (Below.refl _ _).drew ?_
      · kernel_rfl
      repeat first
               | (apply gRow_plain
                  · exact rfl
                  · intro wg hg
                    ((have d96 := (hg.cell (p := ⟨rb, 96, none⟩) hlt).trans c96))
                    go_simp
                    first
                      | exact rfl
                      | exact hg
                      | exact ⟨hg, rfl⟩
                      | ((fail))
                  intro K hK
                  go_simp
                  refine hK _ ?_
                  clear hK K)
               | (apply gRow_step
                  · go_simp; done
                  · intro wg hg
                    ((have d96 := (hg.cell (p := ⟨rb, 96, none⟩) hlt).trans c96))
                    go_simp
                    first
                      | exact rfl
                      | exact hg
                      | exact ⟨hg, rfl⟩
                      | ((fail))
                  intro K hK
                  go_simp
                  refine hK _ ?_
                  clear hK K)
               | (apply gRow_not
                  · go_simp; done
                  intro K hK
                  go_simp
                  refine hK _ ?_
                  clear hK K)
      refine gRow_nil ?_
      intro wr2 hb2
      have HP2 := Lib.hid (HP.out.grow hb2)
      have C96 := Lib.hid ((hb2.cell (p := ⟨rb, 96, none⟩) hlt).trans c96)
      have HR2 := Lib.hid (owns_below HR.out hb2)
      have HNB : Hid (∀ y, R.L[k]? = some y → beforeB y x' = false) := fun y hy => by
        have h1 := (List.getElem?_eq_some_iff.1 hy).1
        have h2 := HN.out
        omega
      clear hb2 c96 HR
      go_wp2_with fail
      have hkn2 : k = n := by omega
      have HDR := Lib.hid (show R.L.drop k = [] from List.drop_of_length_le (by have := HN.out; omega))
      rcases HR2.out.2 with ⟨hnil, hn0⟩ | ⟨g, cap', cur, he, -, -, hcap1, hcap2, -⟩
      · cases hnil
        obtain rfl : k = 0 := by omega
        have HS1 := Lib.hid (show Src wr2 (.slice none 0 0) 6 0 (flat (R.L.take 0)) from src_none _ _)
        have HS2 := Lib.hid (show Src wr2 (.slice none (0 - 0) (0 - 0)) 6 (0 - 0) (flat (R.L.drop 0)) by rw [HDR.out]; exact src_none _ _)
        have C96 : Hid (wr2.cell? ⟨rb, 96, none⟩ = some (.slice none 0 0)) := C96
        (have HW := Lib.hid (while_at R.L 0 HB.out HNB.out)
         obtain ⟨TK, hTK⟩ : ∃ l, flat (R.L.take 0) = l := ⟨_, rfl⟩
         obtain ⟨DR, hDR⟩ : ∃ l, flat (R.L.drop 0) = l := ⟨_, rfl⟩
         rw [hTK] at HS1
         rw [hDR] at HS2
         have HL' : Hid ((insL R.L x').length = 0 + 1 + (0 - 0) ∧ flat (insL R.L x') = TK ++ (lc x').toList ++ DR) := by
           obtain ⟨h1, h2⟩ := HW.out
           have := HN.out
           rw [← hTK, ← hDR]
           unfold insL
           rw [h1, h2]
           refine ⟨by rw [List.length_append, List.length_cons, List.length_take, List.length_drop]; omega, ?_⟩
           rw [flat_append, show x' :: R.L.drop 0 = [x'] ++ R.L.drop 0 from rfl, flat_append]
           simp [flat]
         clear hTK hDR
         have HLL := Lib.hid (show (insL R.L x').length ≤ 1000 by rw [HL'.out.1]; omega)
         have hm1 : 0 + 0 ≤ 10000 := by omega
         have hm2 : 0 + 1 ≤ 10000 := by omega
         have hm3 : 0 + 1 + (0 - 0) ≤ 10000 := by omega
         have hlt2 := HP2.out.rf.lt
         have bl2 := HP2.out.box.lt
         have B4 := Lib.hid (show wr2.cell? ⟨w.heap.size, 4, none⟩ = some (.int .i64 (G + 1)) by
           have := HP2.out.box.cell 4 _ rfl
           rw [HX.out] at this
           exact this)
         clear b0 b1 b2 b3 b4 b5 bf0 bf1 bf2 bf3 bf4 bf5 bl hlt
         obtain ⟨b0, b1, b2, b3, b4, b5, -⟩ := HP2.out.box.lay6
         refine wp_region_pick_tail (Below wr2.heap.size wr2) (AS wr2 46 6 (.slice none 0 0) 0 [] []) [0, 1, 2, 3, 4, 5, 6, 8, 11, 12, 13, 14, 15, 16] 4 18 (by kernel_rfl) ?_ AS.stable AS.base (AS.start wr2 46 6) ?_
         · kernel_rfl
         repeat (apply pRow_plain
                 · exact rfl
                 · exact rfl
                 · intro wg hg
                   ((have d96 := (hg.cell (p := ⟨rb, 96, none⟩) hlt2).trans C96.out; have x0 := (hg.cell (p := ⟨w.heap.size, 0, none⟩) bl2).trans b0; have x1 := (hg.cell (p := ⟨w.heap.size, 1, none⟩) bl2).trans b1; have x2 := (hg.cell (p := ⟨w.heap.size, 2, none⟩) bl2).trans b2; have x3 := (hg.cell (p := ⟨w.heap.size, 3, none⟩) bl2).trans b3; have x4 := (hg.cell (p := ⟨w.heap.size, 4, none⟩) bl2).trans b4; have x5 := (hg.cell (p := ⟨w.heap.size, 5, none⟩) bl2).trans b5))
                   go_simp
                   first
                     | exact rfl
                     | exact Below.refl _ _
                     | exact ⟨Below.refl _ _, rfl⟩
                     | ((fail))
                 intro K hK
                 go_simp
                 refine hK _ ?_
                 clear hK K)
         clear b0 b1 b2 b3 b4 b5
         refine pRow_nil ?_
         refine lAnyL_step [7, 9] ?_ (by simp) (by decide) ?_
         · kernel_rfl
         intro j hj
         have hj' : j = 7 ∨ j = 9 := by simpa using hj
         rcases hj' with rfl | rfl
         · refine lOp_app elt37 _ _ rfl rfl rfl rfl rfl (fun wg hg => HS1.out.below hg.below) hm1 ?_
           intro u1
           go_simp
           refine lAnyL_step [9] ?_ (by simp) (by decide) ?_
           · kernel_rfl
           intro j hj
           obtain rfl : j = 9 := by simpa using hj
           refine lOp_build (lc x') rfl rfl (fun w => by go_simp) ?_
           intro bx
           go_simp
           (refine lAnyL_step [10] ?_ (by simp) (by decide) ?_
            · kernel_rfl
            intro j hj
            obtain rfl : j = 10 := by simpa using hj
            refine lOp_app elt37 _ _ rfl rfl rfl rfl rfl (fun wg hg => hg.src (c := lc x') (by simp) rfl (by intro u hu; simp at hu; rcases hu with rfl | rfl | rfl | rfl | rfl | rfl <;> rfl)) hm2 ?_
            intro u2
            go_simp
            refine lAnyL_step [17] ?_ (by simp) (by decide) ?_
            · kernel_rfl
            intro j hj
            obtain rfl : j = 17 := by simpa using hj
            refine lOp_app elt37 _ _ rfl rfl rfl rfl rfl (fun wg hg => HS2.out.below hg.below) hm3 ?_
            intro u3
            go_simp
            refine ⟨?_, ?_⟩
            · kernel_rfl
            intro wg hg
            obtain ⟨ua, ucap, rfl⟩ := owns_val hg.row
            have HG2 := Lib.hid hg
            have d96 := (hg.below.cell (p := ⟨rb, 96, none⟩) hlt2).trans C96.out
            have e96 := (hg.below.frozen (p := ⟨rb, 96, none⟩) hlt2).trans (HP2.out.rf.thaw 96)
            have e4 := (hg.below.cell (p := ⟨w.heap.size, 4, none⟩) bl2).trans B4.out
            have HNE := Lib.hid HP2.out.ne
            have hne2 : ¬ rb = w.heap.size := HNE.out
            clear hg
            go_wp2
            go_ret
            obtain ⟨q1, q2⟩ := HL'.out
            try simp only [Nat.zero_add, Nat.sub_self, Nat.add_zero] at q1
            have ho := HG2.out.row
            simp only [List.append_assoc, List.cons_append, List.nil_append] at ho q2
            rw [← q2] at ho
            rw [← q1] at ho
            obtain ⟨k1, k2, k3⟩ := HP2.out.rf.row' HG2.out.below ho HLL.out
            rw [q1] at k1 k2 k3
            rw [← HX.out]
            exact ⟨rfl, k1, HP2.out.below.trans k2, fun b hb _ => k3 b (Nat.lt_of_lt_of_le hb HP2.out.below.size)⟩)
         · refine lOp_build (lc x') rfl rfl (fun w => by go_simp) ?_
           intro bx
           go_simp
           refine lAnyL_step [7] ?_ (by simp) (by decide) ?_
           · kernel_rfl
           intro j hj
           obtain rfl : j = 7 := by simpa using hj
           refine lOp_app elt37 _ _ rfl rfl rfl rfl rfl (fun wg hg => HS1.out.below hg.below) hm1 ?_
           intro u1
           go_simp
           (refine lAnyL_step [10] ?_ (by simp) (by decide) ?_
            · kernel_rfl
            intro j hj
            obtain rfl : j = 10 := by simpa using hj
            refine lOp_app elt37 _ _ rfl rfl rfl rfl rfl (fun wg hg => hg.src (c := lc x') (by simp) rfl (by intro u hu; simp at hu; rcases hu with rfl | rfl | rfl | rfl | rfl | rfl <;> rfl)) hm2 ?_
            intro u2
            go_simp
            refine lAnyL_step [17] ?_ (by simp) (by decide) ?_
            · kernel_rfl
            intro j hj
            obtain rfl : j = 17 := by simpa using hj
            refine lOp_app elt37 _ _ rfl rfl rfl rfl rfl (fun wg hg => HS2.out.below hg.below) hm3 ?_
            intro u3
            go_simp
            refine ⟨?_, ?_⟩
            · kernel_rfl
            intro wg hg
            obtain ⟨ua, ucap, rfl⟩ := owns_val hg.row
            have HG2 := Lib.hid hg
            have d96 := (hg.below.cell (p := ⟨rb, 96, none⟩) hlt2).trans C96.out
            have e96 := (hg.below.frozen (p := ⟨rb, 96, none⟩) hlt2).trans (HP2.out.rf.thaw 96)
            have e4 := (hg.below.cell (p := ⟨w.heap.size, 4, none⟩) bl2).trans B4.out
            have HNE := Lib.hid HP2.out.ne
            have hne2 : ¬ rb = w.heap.size := HNE.out
            clear hg
            go_wp2
            go_ret
            obtain ⟨q1, q2⟩ := HL'.out
            try simp only [Nat.zero_add, Nat.sub_self, Nat.add_zero] at q1
            have ho := HG2.out.row
            simp only [List.append_assoc, List.cons_append, List.nil_append] at ho q2
            rw [← q2] at ho
            rw [← q1] at ho
            obtain ⟨k1, k2, k3⟩ := HP2.out.rf.row' HG2.out.below ho HLL.out
            rw [q1] at k1 k2 k3
            rw [← HX.out]
            exact ⟨rfl, k1, HP2.out.below.trans k2, fun b hb _ => k3 b (Nat.lt_of_lt_of_le hb HP2.out.below.size)⟩))
      · cases he
        unfold maxLen at hcap2
        have hic : k ≤ cap := by omega
        have hcm : cap ≤ 9223372036854775807 := by omega
        have hin : k ≤ n := by omega
        have hin2 : (k : Int) ≤ (n : Int) := by omega
        obtain ⟨sa, hif⟩ : ∃ sa, (if cap = k then some (⟨g, 0, none⟩ : Addr) else some ⟨g, k * 6, none⟩) = sa := ⟨_, rfl⟩
        have HS1 := Lib.hid (show Src wr2 (.slice (some ⟨g, 0, none⟩) k cap) 6 k (flat (R.L.take k)) by
          rw [← flat_take]
          exact src_take HR2.out (flat_one _) hin cap)
        have HS2 := Lib.hid (show Src wr2 (.slice sa (n - k) (cap - k)) 6 (n - k) (flat (R.L.drop k)) by
          rw [HDR.out, show n - k = 0 by omega]
          exact src_none _ _)
        have HKN := Lib.hid hkn2
        clear hkn2 hcap1 hcap2
        (have HW := Lib.hid (while_at R.L k HB.out HNB.out)
         obtain ⟨TK, hTK⟩ : ∃ l, flat (R.L.take k) = l := ⟨_, rfl⟩
         obtain ⟨DR, hDR⟩ : ∃ l, flat (R.L.drop k) = l := ⟨_, rfl⟩
         rw [hTK] at HS1
         rw [hDR] at HS2
         have HL' : Hid ((insL R.L x').length = k + 1 + (n - k) ∧ flat (insL R.L x') = TK ++ (lc x').toList ++ DR) := by
           obtain ⟨h1, h2⟩ := HW.out
           have := HN.out
           rw [← hTK, ← hDR]
           unfold insL
           rw [h1, h2]
           refine ⟨by rw [List.length_append, List.length_cons, List.length_take, List.length_drop]; omega, ?_⟩
           rw [flat_append, show x' :: R.L.drop k = [x'] ++ R.L.drop k from rfl, flat_append]
           simp [flat]
         clear hTK hDR
         have HLL := Lib.hid (show (insL R.L x').length ≤ 1000 by rw [HL'.out.1]; omega)
         have hm1 : 0 + k ≤ 10000 := by omega
         have hm2 : k + 1 ≤ 10000 := by omega
         have hm3 : k + 1 + (n - k) ≤ 10000 := by omega
         have hlt2 := HP2.out.rf.lt
         have bl2 := HP2.out.box.lt
         have B4 := Lib.hid (show wr2.cell? ⟨w.heap.size, 4, none⟩ = some (.int .i64 (G + 1)) by
           have := HP2.out.box.cell 4 _ rfl
           rw [HX.out] at this
           exact this)
         clear b0 b1 b2 b3 b4 b5 bf0 bf1 bf2 bf3 bf4 bf5 bl hlt
         obtain ⟨b0, b1, b2, b3, b4, b5, -⟩ := HP2.out.box.lay6
         refine wp_region_pick_tail (Below wr2.heap.size wr2) (AS wr2 46 6 (.slice none 0 0) 0 [] []) [0, 1, 2, 3, 4, 5, 6, 8, 11, 12, 13, 14, 15, 16] 4 18 (by kernel_rfl) ?_ AS.stable AS.base (AS.start wr2 46 6) ?_
         · kernel_rfl
         repeat (apply pRow_plain
                 · exact rfl
                 · exact rfl
                 · intro wg hg
                   ((have d96 := (hg.cell (p := ⟨rb, 96, none⟩) hlt2).trans C96.out; have x0 := (hg.cell (p := ⟨w.heap.size, 0, none⟩) bl2).trans b0; have x1 := (hg.cell (p := ⟨w.heap.size, 1, none⟩) bl2).trans b1; have x2 := (hg.cell (p := ⟨w.heap.size, 2, none⟩) bl2).trans b2; have x3 := (hg.cell (p := ⟨w.heap.size, 3, none⟩) bl2).trans b3; have x4 := (hg.cell (p := ⟨w.heap.size, 4, none⟩) bl2).trans b4; have x5 := (hg.cell (p := ⟨w.heap.size, 5, none⟩) bl2).trans b5))
                   go_simp
                   first
                     | exact rfl
                     | exact Below.refl _ _
                     | exact ⟨Below.refl _ _, rfl⟩
                     | ((fail))
                 intro K hK
                 go_simp
                 refine hK _ ?_
                 clear hK K)
         clear b0 b1 b2 b3 b4 b5
         refine pRow_nil ?_
         refine lAnyL_step [7, 9] ?_ (by simp) (by decide) ?_
         · kernel_rfl
         intro j hj
         have hj' : j = 7 ∨ j = 9 := by simpa using hj
         rcases hj' with rfl | rfl
         · refine lOp_app elt37 _ _ rfl rfl rfl rfl rfl (fun wg hg => HS1.out.below hg.below) hm1 ?_
           intro u1
           go_simp
           refine lAnyL_step [9] ?_ (by simp) (by decide) ?_
           · kernel_rfl
           intro j hj
           obtain rfl : j = 9 := by simpa using hj
           refine lOp_build (lc x') rfl rfl (fun w => by go_simp) ?_
           intro bx
           go_simp
           (refine lAnyL_step [10] ?_ (by simp) (by decide) ?_
            · kernel_rfl
            intro j hj
            obtain rfl : j = 10 := by simpa using hj
            refine lOp_app elt37 _ _ rfl rfl rfl rfl rfl (fun wg hg => hg.src (c := lc x') (by simp) rfl (by intro u hu; simp at hu; rcases hu with rfl | rfl | rfl | rfl | rfl | rfl <;> rfl)) hm2 ?_
            intro u2
            go_simp
            refine lAnyL_step [17] ?_ (by simp) (by decide) ?_
            · kernel_rfl
            intro j hj
            obtain rfl : j = 17 := by simpa using hj
            refine lOp_app elt37 _ _ rfl rfl rfl rfl rfl (fun wg hg => HS2.out.below hg.below) hm3 ?_
            intro u3
            go_simp
            refine ⟨?_, ?_⟩
            · kernel_rfl
            intro wg hg
            obtain ⟨ua, ucap, rfl⟩ := owns_val hg.row
            have HG2 := Lib.hid hg
            have d96 := (hg.below.cell (p := ⟨rb, 96, none⟩) hlt2).trans C96.out
            have e96 := (hg.below.frozen (p := ⟨rb, 96, none⟩) hlt2).trans (HP2.out.rf.thaw 96)
            have e4 := (hg.below.cell (p := ⟨w.heap.size, 4, none⟩) bl2).trans B4.out
            have HNE := Lib.hid HP2.out.ne
            have hne2 : ¬ rb = w.heap.size := HNE.out
            clear hg
            go_wp2
            go_ret
            obtain ⟨q1, q2⟩ := HL'.out
            try simp only [Nat.zero_add, Nat.sub_self, Nat.add_zero] at q1
            have ho := HG2.out.row
            simp only [List.append_assoc, List.cons_append, List.nil_append] at ho q2
            rw [← q2] at ho
            rw [← q1] at ho
            obtain ⟨k1, k2, k3⟩ := HP2.out.rf.row' HG2.out.below ho HLL.out
            rw [q1] at k1 k2 k3
            rw [← HX.out]
            exact ⟨rfl, k1, HP2.out.below.trans k2, fun b hb _ => k3 b (Nat.lt_of_lt_of_le hb HP2.out.below.size)⟩)
         · refine lOp_build (lc x') rfl rfl (fun w => by go_simp) ?_
           intro bx
           go_simp
           refine lAnyL_step [7] ?_ (by simp) (by decide) ?_
           · kernel_rfl
           intro j hj
           obtain rfl : j = 7 := by simpa using hj
           refine lOp_app elt37 _ _ rfl rfl rfl rfl rfl (fun wg hg => HS1.out.below hg.below) hm1 ?_
           intro u1
           go_simp
           (refine lAnyL_step [10] ?_ (by simp) (by decide) ?_
            · kernel_rfl
            intro j hj
            obtain rfl : j = 10 := by simpa using hj
            refine lOp_app elt37 _ _ rfl rfl rfl rfl rfl (fun wg hg => hg.src (c := lc x') (by simp) rfl (by intro u hu; simp at hu; rcases hu with rfl | rfl | rfl | rfl | rfl | rfl <;> rfl)) hm2 ?_
            intro u2
            go_simp
            refine lAnyL_step [17] ?_ (by simp) (by decide) ?_
            · kernel_rfl
            intro j hj
            obtain rfl : j = 17 := by simpa using hj
            refine lOp_app elt37 _ _ rfl rfl rfl rfl rfl (fun wg hg => HS2.out.below hg.below) hm3 ?_
            intro u3
            go_simp
            refine ⟨?_, ?_⟩
            · kernel_rfl
            intro wg hg
            obtain ⟨ua, ucap, rfl⟩ := owns_val hg.row
            have HG2 := Lib.hid hg
            have d96 := (hg.below.cell (p := ⟨rb, 96, none⟩) hlt2).trans C96.out
            have e96 := (hg.below.frozen (p := ⟨rb, 96, none⟩) hlt2).trans (HP2.out.rf.thaw 96)
            have e4 := (hg.below.cell (p := ⟨w.heap.size, 4, none⟩) bl2).trans B4.out
            have HNE := Lib.hid HP2.out.ne
            have hne2 : ¬ rb = w.heap.size := HNE.out
            clear hg
            go_wp2
            go_ret
            obtain ⟨q1, q2⟩ := HL'.out
            try simp only [Nat.zero_add, Nat.sub_self, Nat.add_zero] at q1
            have ho := HG2.out.row
            simp only [List.append_assoc, List.cons_append, List.nil_append] at ho q2
            rw [← q2] at ho
            rw [← q1] at ho
            obtain ⟨k1, k2, k3⟩ := HP2.out.rf.row' HG2.out.below ho HLL.out
            rw [q1] at k1 k2 k3
            rw [← HX.out]
            exact ⟨rfl, k1, HP2.out.below.trans k2, fun b hb _ => k3 b (Nat.lt_of_lt_of_le hb HP2.out.below.size)⟩))
end Go.Proofs.Ytnhpjmjinchamaa
