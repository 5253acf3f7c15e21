/- The walk of the reference's Decode. -/
import Derived.Test.YtojfeldafbabeaaTt
import Derived.Test.YtojfeldafbabeaaPw
import Derived.Test.YtojfeldafbabeaaI3
set_option linter.unusedVariables false
set_option linter.unusedSimpArgs false
set_option linter.unnecessarySimpa false
namespace Go.Proofs.Ytojfeldafbabeaa
open Go.RowKit Go.Mem Go.Deep

def genTo (k : Nat) (fs : List Frag) (j : Nat) : List (List Nat) := (List.range j).map fun i => genRow k (fragD fs i).1.toNat
theorem genTo_len (k : Nat) (fs : List Frag) (j : Nat) : (genTo k fs j).length = j := by simp [genTo]
theorem genTo_succ (k : Nat) (fs : List Frag) (j : Nat) : genTo k fs (j + 1) = genTo k fs j ++ [genRow k (fragD fs j).1.toNat] := by simp [genTo, List.range_succ]
def blk : Value → Nat
  | .slice (some a) _ _ => a.block
  | _ => 0
theorem TT.clean {w0 w : World} {B : Nat} {va vr : Value} {vsa vsr : List Value} {A R : List (List Nat)} {pend : List (Value × List Nat)} {tmps : List (Nat × Value)} (h : TT w0 B va vsa A vr vsr R pend tmps w) : TT w0 B va vsa A vr vsr R [] [] w :=
  ⟨h.below, h.size, h.ra, h.rr, fun _ h => (by cases h), fun _ h => (by cases h), h.apart⟩
theorem TT.start {w0 w : World} {B : Nat} (hb : Below B w0 w) (hs : B ≤ w.heap.size) : TT w0 B (.slice none 0 0) [] [] (.slice none 0 0) [] [] [] [] w :=
  ⟨hb, hs, RowsO.nil _ _ _ _, RowsO.nil _ _ _ _, fun _ h => (by cases h), fun _ h => (by cases h), fun g h => by simp [Value.ownBlock] at h⟩
theorem build_ok {w0 w : World} {B : Nat} {va vr x : Value} {vsa vsr : List Value} {A R : List (List Nat)} {pend : List (Value × List Nat)} {tmps : List (Nat × Value)} (h : TT w0 B va vsa A vr vsr R pend tmps w) : TT w0 B va vsa A vr vsr R pend ((w.heap.size, x) :: tmps) (w.alloc (.cells #[x] 31)) := h.build x
theorem TT.came {w0 w : World} {B : Nat} {va vr y : Value} {l : List Nat} {vsa vsr : List Value} {A R : List (List Nat)} {pend : List (Value × List Nat)} {tmps : List (Nat × Value)} (h : TT w0 B va vsa A vr vsr R pend tmps w) (hk : Kept w B 5 y l) : TT w0 B va vsa A vr vsr R ((y, l) :: pend) tmps w :=
  h.call (Below.refl _ _) hk

theorem put_norm {K : Act → Prop} {a' : Act} (h : ∀ K' : Act → Prop, (∀ a, K a → K' a) → K' a') : K a' := h K fun _ h => h

def dataTo (k : Nat) (fs : List Frag) (b : Nat) : List (List Nat) := (List.range b).map fun i => GF.comb ((invOf k (genMat k fs)).getD i []) (rowsTo fs k)
theorem dataTo_len (k : Nat) (fs : List Frag) (b : Nat) : (dataTo k fs b).length = b := by simp [dataTo]
theorem dataTo_succ (k : Nat) (fs : List Frag) (b : Nat) : dataTo k fs (b + 1) = dataTo k fs b ++ [GF.comb ((invOf k (genMat k fs)).getD b []) (rowsTo fs k)] := by simp [dataTo, List.range_succ]
theorem fits_level {k m n : Nat} {fs : List Frag} (hk : 1 ≤ k) (hI : InR k m fs n) (hf : Fits k m fs n) : Level (rowsTo fs n) := fun i hi => by
  rw [rowsTo_len] at hi
  have hlen : ∀ i, i < n → (fragD fs i).2.length = ((dataOf k fs).getD 0 []).length := fun i hi => by
    have h := hI i hi
    rw [← hf i hi]
    unfold wordOf
    rw [word_rowlen (by omega)]
  rw [rowsTo_getD _ _ _ hi, rowsTo_getD _ _ _ (by omega), hlen i hi, hlen 0 (by omega)]
theorem verdict_bad {k m n : Nat} {fs : List Frag} (hn : n = fs.length) (hI : InR k m fs n) (hd : dupTo fs n = false) (hk : k ≤ n) (hf : ¬ Fits k m fs n) : verdict k m fs = 11 := by
  by_cases hl : Level (rowsTo fs n)
  · exact verdict_fits hn hI hd hk hl hf
  · exact verdict_level hn hI hd hk hl
def RDPost (k m : Nat) (fs : List Frag) (w : World) (e : Ending) (w' : World) : Prop :=
  (verdict k m fs = 0 ∧ ∃ v, e = .returned (.tuple #[v, .int .i64 0]) ∧ Mat w' v (dataOf k fs) ∧ Below w.heap.size w w') ∨ (verdict k m fs ≠ 0 ∧ NilPost (verdict k m fs) w e w')
theorem rd_nil {k m : Nat} {fs : List Frag} {w w' : World} {E : Int} (hv : verdict k m fs = E) (hE : E ≠ 0) (hb : Below w.heap.size w w') : RDPost k m fs w (.returned (.tuple #[.slice none 0 0, .int .i64 E])) w' :=
  .inr ⟨by rw [hv]; exact hE, by rw [hv]; exact ⟨rfl, hb⟩⟩

set_option maxRecDepth 100000 in
set_option maxHeartbeats 8000000 in
theorem refDecode_any (k m : Nat) (fs : List Frag) (vf : Value) (w : World) (hf : Frags w vf fs) (hc : codeB k m = true) (hb : ∀ i, i < fs.length → (fragD fs i).2.length ≤ 2000) (h30 : fs.length ≤ 30) :
    Calls Try.prog 22 #[.int .i64 k, .int .i64 m, vf] w (RDPost k m fs w) := by
  obtain ⟨a, b, ha, hb', h1, h6, h4, h8⟩ := codeB_nat hc
  have ha : k = a := by omega
  have hb' : m = b := by omega
  subst ha hb'
  obtain ⟨fa, fcap, rfl, hfl⟩ := hf.open
  obtain ⟨n, hn⟩ : ∃ n, n = fs.length := ⟨_, rfl⟩
  rw [← hn] at hf hb hfl h30 ⊢
  have HF := Lib.hid hf
  have HB0 := Lib.hid hb
  have HN := Lib.hid hn
  have HC := Lib.hid hc
  clear hf hb hn hc
  go_enter Try.func22, Try.ntmps22
  go_wp2_with (first | (go_at_call 33; refine (refCode_any _ _ _).mono ?_; rw [HC.out]; rintro e w2 ⟨rfl, rfl⟩))
  clear ha hb'
  go_loop [8] (fun i => ∃ j : Nat, j ≤ n ∧ i = .int .i64 j ∧ Hid (InR k m fs j)) (fun i => n - (intOf i).toNat)
  case atStart => exact ⟨0, by omega, rfl, Lib.hid (fun i hi => by omega)⟩
  case round =>
    obtain ⟨j, hj, rfl, HI⟩ := hrel
    by_cases hjn : j < n
    · obtain ⟨fb, fo, y, he, hfb, hc0, hc1, hby⟩ := HF.out.cell (i := j) (by have := HN.out; omega)
      subst he
      obtain ⟨x, hx⟩ : ∃ x, x = (fragD fs j).1 := ⟨_, rfl⟩
      rw [← hx] at hc0
      have HX := Lib.hid hx
      clear hc1 hby hx
      by_cases hx0 : x < 0
      · have hd0 : decide (x < 0) = true := by simpa using hx0
        go_wp2_with fail
        go_ret2
        exact rd_nil (not_inR (k := k) (m := m) HN.out hjn (.inl (by rw [← HX.out]; exact hx0))) (by decide) (Below.refl _ _)
      · have hd0 : decide (x < 0) = false := by simpa using hx0
        by_cases hxk : (k : Int) + m ≤ x
        · have hd1 : decide ((k : Int) + m ≤ x) = true := by simpa using hxk
          go_wp2_with fail
          go_ret2
          exact rd_nil (not_inR (k := k) (m := m) HN.out hjn (.inr (by rw [← HX.out]; exact hxk))) (by decide) (Below.refl _ _)
        · have hd1 : decide ((k : Int) + m ≤ x) = false := by simpa using hxk
          go_wp2_with fail
          go_round
          case rel => exact ⟨j + 1, by omega, by go_num, Lib.hid (fun i hi => by
            by_cases e : i = j
            · subst e; rw [← HX.out]; omega
            · exact HI.out i (by omega))⟩
          case measure => simp [intOf]; omega
    · obtain rfl : j = n := by omega
      clear hj hjn
      go_wp2_with fail
      go_loopw [9] (fun i wr => ∃ p : Nat, p ≤ j ∧ i = .int .i64 p ∧ Below w.heap.size w wr ∧ dupTo fs p = false) (fun i _ => j - (intOf i).toNat)
      case atStart => exact ⟨0, by omega, rfl, Below.refl _ _, rfl⟩
      case round =>
        rename World => wr
        obtain ⟨p, hp, rfl, hbr, hdp⟩ := hrel
        have HB := Lib.hid hbr
        have HD := Lib.hid hdp
        clear hbr hdp
        by_cases hpj : p < j
        · obtain ⟨fb, fo, y, he, hfb, hc0, hc1, hby⟩ := HF.out.cell (i := p) (by have := HN.out; omega)
          subst he
          obtain ⟨x, hx⟩ : ∃ x, x = (fragD fs p).1 := ⟨_, rfl⟩
          rw [← hx] at hc0
          have HX := Lib.hid hx
          have HC0 := Lib.hid hc0
          clear hc1 hby hx hc0
          go_wp2_with fail
          go_loopw [10] (fun i wq => ∃ t : Nat, t ≤ p ∧ i = .int .i64 t ∧ Below w.heap.size w wq ∧ ∀ u, u < t → (fragD fs u).1 ≠ (fragD fs p).1) (fun i _ => p - (intOf i).toNat)
          case atStart => exact ⟨0, by omega, rfl, HB.out, fun u hu => by omega⟩
          case round =>
            rename World => wq
            obtain ⟨t, ht, rfl, hbq, hne⟩ := hrel
            have HBQ := Lib.hid hbq
            have HNE := Lib.hid hne
            clear hbq hne
            by_cases htp : t < p
            · obtain ⟨fb', fo', y, he, hfb', hc2, hc3, hby⟩ := HF.out.cell (i := t) (by have := HN.out; omega)
              cases he
              obtain ⟨z, hz⟩ : ∃ z, z = (fragD fs t).1 := ⟨_, rfl⟩
              rw [← hz] at hc2
              have hc0' := (HBQ.out.cell (p := ⟨fb, fo + p * 2, none⟩) hfb).trans HC0.out
              have hc2' := (HBQ.out.cell (p := ⟨fb, fo + t * 2, none⟩) hfb).trans hc2
              have HZ := Lib.hid hz
              have htj : t < j := by omega
              clear hc2 hc3 hby hz
              by_cases hxz : x = z
              · have hd : (x == z) = true := by rw [hxz]; simp
                have HXZ := Lib.hid hxz
                clear hxz
                go_wp2_with fail
                go_still (by kernel_rfl)
                go_wp2_with fail
                go_ret2
                exact rd_nil (verdict_dup (k := k) (m := m) HN.out HI.out ((dupTo_iff fs j).2 ⟨t, p, htp, hpj, by rw [← HZ.out, ← HX.out, HXZ.out]⟩)) (by decide) HBQ.out.drew
              · have hd : (x == z) = false := by rw [beq_eq_false_iff_ne]; exact hxz
                have HXZ := Lib.hid hxz
                clear hxz
                go_wp2_with fail
                go_still (by kernel_rfl)
                go_wp2_with fail
                go_roundw
                case rel => exact ⟨t + 1, by omega, by go_num, HBQ.out.drew, fun u hu => by
                  by_cases e : u = t
                  · subst e; rw [← HZ.out, ← HX.out]; exact fun h => HXZ.out h.symm
                  · exact HNE.out u (by omega)⟩
                case measure => simp [intOf]; omega
            · obtain rfl : t = p := by omega
              go_wp2_with fail
              go_roundw
              case rel => exact ⟨t + 1, by omega, by go_num, HBQ.out, by
                rw [dupTo, HD.out, Bool.false_or]
                cases h : seenTo fs t (fragD fs t).1 with
                | false => rfl
                | true =>
                  obtain ⟨u, hu, hu2⟩ := (seenTo_iff fs _ t).1 h
                  exact absurd hu2 (HNE.out u hu)⟩
              case measure => simp [intOf]; omega
        · obtain rfl : p = j := by omega
          clear hp hpj
          by_cases hpk : p < k
          · have hd1 : decide ((p : Int) < (k : Int)) = true := by simpa using hpk
            go_wp2_with fail
            go_ret2
            exact rd_nil (verdict_short (k := k) (m := m) HN.out HI.out HD.out hpk) (by decide) HB.out
          · have hd1 : decide ((p : Int) < (k : Int)) = false := by simpa using hpk
            go_wp2_with fail
            go_loopw [11, 12, 13] (fun va vr i wr => ∃ (j : Nat) (vsa vsr : List Value), j ≤ k ∧ i = .int .i64 j ∧ TT w w.heap.size va vsa (genTo k fs j) vr vsr (rowsTo fs j) [] [] wr) (fun _ _ i _ => k - (intOf i).toNat)
            case atStart => exact ⟨0, [], [], by omega, rfl, TT.start HB.out HB.out.size⟩
            case round =>
              rename World => wt
              obtain ⟨j, vsa, vsr, hj, rfl, htt⟩ := hrel
              have HT := Lib.hid htt
              clear htt
              by_cases hjk : j < k
              · obtain ⟨fb, fo, y, he, hfb, hc0, hc1, hby⟩ := HF.out.cell (i := j) (by have := HN.out; omega)
                subst he
                have hia := HI.out j (by omega)
                obtain ⟨q, hq⟩ : ∃ q : Nat, q = (fragD fs j).1.toNat := ⟨_, rfl⟩
                have hqe : (fragD fs j).1 = (q : Int) := by omega
                rw [hqe] at hc0
                have hqlt : q ≤ 8 := by omega
                have HQ := Lib.hid hq
                obtain ⟨l, hl⟩ : ∃ l, l = (fragD fs j).2 := ⟨_, rfl⟩
                rw [← hl] at hby
                have HLL := Lib.hid hl
                have hkp := Kept.came (e := 5) hby HT.out.below (Nat.le_refl _)
                obtain ⟨ya, ycap, rfl, _⟩ := hby.open
                obtain ⟨L, hL⟩ : ∃ L, L = l.length := ⟨_, rfl⟩
                rw [← hL] at hc1 hkp
                have HC0 := Lib.hid hc0
                have HC1 := Lib.hid hc1
                have HT2 := Lib.hid (HT.out.came hkp)
                have hjp : j < p := by omega
                obtain ⟨va, hva⟩ : ∃ v, v = u11 := ⟨_, rfl⟩
                obtain ⟨vr, hvr⟩ : ∃ v, v = u12 := ⟨_, rfl⟩
                subst hva hvr
                clear hc0 hc1 hby hia hqe hq hl hL hkp
                go_wp2_with fail
                refine wp_region_pick (fun w' => Below w.heap.size w w') (TT w w.heap.size va vsa (genTo k fs j) vr vsr (rowsTo fs j) [(.slice ya L ycap, l)] []) [0, 1, 2, 3, 4, 5, 6, 10, 11, 12, 13, 14, 15] 7 (by kernel_rfl) (by kernel_rfl) rfl (by kernel_rfl) TT.stable (fun _ h => h.below) HT2.out ?_
                repeat (apply pRow_plain
                        · exact rfl
                        · exact rfl
                        · intro wg hg
                          have hc := (fun wg (hg : Below w.heap.size w wg) => And.intro ((hg.cell (p := ⟨fb, fo + j * 2, none⟩) hfb).trans HC0.out) ((hg.cell (p := ⟨fb, fo + j * 2 + 1, none⟩) hfb).trans HC1.out)) wg hg
                          go_simp
                          first
                            | exact rfl
                            | exact ⟨Below.refl _ _, rfl⟩
                            | ((fail))
                        intro K hK
                        go_simp
                        refine hK _ ?_
                        clear hK K)
                refine pRow_nil ?_
                refine lAny_step [7, 16] (by kernel_rfl) (by decide) ?_
                intro i hi
                have hi' : i = 7 ∨ i = 16 := by simpa using hi
                clear hi
                rcases hi' with rfl | rfl
                · refine lOp_special' rfl (fun u w' => (∃ p n c, u = .slice p n c) ∧ TT w w.heap.size va vsa (genTo k fs j) vr vsr (rowsTo fs j) ((u, genRow k q) :: [(.slice ya L ycap, l)]) [] w') rfl (fun u wa wb h hb => ⟨h.1, h.2.grow hb⟩) (fun _ _ h => h.2.below) ?_ ?_
                  · intro wg hg
                    have hg1 := (id hg)
                    clear hg
                    go_simp
                    refine (factors_any k q _ (by omega) (by omega)).mono ?_
                    rintro e w5 ⟨_, rfl, hc1, ⟨rb, rn, rcap, rc, rfl, _, hc4⟩, hc5⟩
                    exact ⟨_, rfl, ⟨_, _, _, rfl⟩, hg1.call hc5 (Kept.fresh hc1 rfl hc4)⟩
                  rintro _ ⟨wv, ⟨cp, cn, cc, rfl⟩, _⟩
                  (refine put_norm (K := lAny Try.prog .any _ _ _ _ _ _) ?_
                   intro K hK
                   go_simp
                   refine hK _ ?_
                   clear hK K)
                  refine lAny_step [8, 16] (by kernel_rfl) (by decide) ?_
                  intro i hi
                  have hi' : i = 8 ∨ i = 16 := by simpa using hi
                  clear hi
                  rcases hi' with rfl | rfl
                  · refine lOp_special' rfl (fun u w' => u = .slice (some ⟨blk u, 0, none⟩) 1 1 ∧ TT w w.heap.size va vsa (genTo k fs j) vr vsr (rowsTo fs j) [(.slice cp cn cc, genRow k q), (.slice ya L ycap, l)] ((blk u, .slice cp cn cc) :: []) w') rfl (fun u wa wb h hb => ⟨h.1, h.2.grow hb⟩) (fun _ _ h => h.2.below) ?_ ?_
                    · intro wg hg
                      have hg1 := (And.right hg)
                      clear hg
                      go_simp
                      exact ⟨rfl, build_ok hg1⟩
                    rintro u ⟨wv, hu, hz⟩
                    obtain ⟨xa, rfl⟩ : ∃ x, u = .slice (some ⟨x, 0, none⟩) 1 1 := ⟨_, hu⟩
                    clear hz hu wv
                    (refine put_norm (K := lAny Try.prog .any _ _ _ _ _ _) ?_
                     intro K hK
                     go_simp
                     refine hK _ ?_
                     clear hK K)
                    refine lAny_step [9, 16] (by kernel_rfl) (by decide) ?_
                    intro i hi
                    have hi' : i = 9 ∨ i = 16 := by simpa using hi
                    clear hi
                    rcases hi' with rfl | rfl
                    · refine lOp_special' rfl (fun u w' => TT w w.heap.size u (vsa ++ [.slice cp cn cc]) (genTo k fs j ++ [genRow k q]) vr vsr (rowsTo fs j) [(.slice cp cn cc, genRow k q), (.slice ya L ycap, l)] [(xa, .slice cp cn cc)] w') rfl (fun u wa wb h hb => h.grow hb) (fun _ _ h => h.below) (fun wg hg => sUpon_left (.tmp 81) (.tmp 89) rfl rfl rfl ((And.right hg)) (by rw [genTo_len]; omega) (by simp) (by simp)) ?_
                      rintro va2 _
                      (refine put_norm (K := lAny Try.prog .any _ _ _ _ _ _) ?_
                       intro K hK
                       go_simp
                       refine hK _ ?_
                       clear hK K)
                      refine lAny_step [16] (by kernel_rfl) (by decide) ?_
                      intro i hi
                      obtain rfl : i = 16 := by simpa using hi
                      clear hi
                      refine lOp_special' rfl (fun u w' => u = .slice (some ⟨blk u, 0, none⟩) 1 1 ∧ TT w w.heap.size va2 (vsa ++ [.slice cp cn cc]) (genTo k fs j ++ [genRow k q]) vr vsr (rowsTo fs j) [(.slice cp cn cc, genRow k q), (.slice ya L ycap, l)] ((blk u, .slice ya L ycap) :: [(xa, .slice cp cn cc)]) w') rfl (fun u wa wb h hb => ⟨h.1, h.2.grow hb⟩) (fun _ _ h => h.2.below) ?_ ?_
                      · intro wg hg
                        have hg1 := (id hg)
                        clear hg
                        go_simp
                        exact ⟨rfl, build_ok hg1⟩
                      rintro u ⟨wv, hu, hz⟩
                      obtain ⟨xb, rfl⟩ : ∃ x, u = .slice (some ⟨x, 0, none⟩) 1 1 := ⟨_, hu⟩
                      clear hz hu wv
                      (refine put_norm (K := lAny Try.prog .any _ _ _ _ _ _) ?_
                       intro K hK
                       go_simp
                       refine hK _ ?_
                       clear hK K)
                      refine lAny_step [17] (by kernel_rfl) (by decide) ?_
                      intro i hi
                      obtain rfl : i = 17 := by simpa using hi
                      clear hi
                      refine lOp_special' rfl (fun u w' => TT w w.heap.size va2 (vsa ++ [.slice cp cn cc]) (genTo k fs j ++ [genRow k q]) u (vsr ++ [.slice ya L ycap]) (rowsTo fs j ++ [l]) [(.slice cp cn cc, genRow k q), (.slice ya L ycap, l)] [(xb, .slice ya L ycap), (xa, .slice cp cn cc)] w') rfl (fun u wa wb h hb => h.grow hb) (fun _ _ h => h.below) (fun wg hg => sUpon_right (.tmp 91) (.tmp 97) rfl rfl rfl ((And.right hg)) (by rw [rowsTo_len]; omega) (by simp) (by simp)) ?_
                      rintro vr2 _
                      (refine put_norm (K := lAny Try.prog .any _ _ _ _ _ _) ?_
                       intro K hK
                       go_simp
                       refine hK _ ?_
                       clear hK K)
                      refine lAny_step [18] (by kernel_rfl) (by decide) ?_
                      intro i hi
                      obtain rfl : i = 18 := by simpa using hi
                      clear hi
                      refine lOp_same va2 rfl rfl (by intro wg hg; go_simp; exact Below.refl _ _) ?_
                      (refine put_norm (K := lAny Try.prog .any _ _ _ _ _ _) ?_
                       intro K hK
                       go_simp
                       refine hK _ ?_
                       clear hK K)
                      refine lAny_step [19] (by kernel_rfl) (by decide) ?_
                      intro i hi
                      obtain rfl : i = 19 := by simpa using hi
                      clear hi
                      refine lOp_same vr2 rfl rfl (by intro wg hg; go_simp; exact Below.refl _ _) ?_
                      (refine put_norm (K := lAny Try.prog .any _ _ _ _ _ _) ?_
                       intro K hK
                       go_simp
                       refine hK _ ?_
                       clear hK K)
                      refine lAny_end (by kernel_rfl) ?_
                      intro w9 hw9
                      have H9 := Lib.hid (id hw9).clean
                      clear hw9
                      go_wp2_with fail
                      go_roundw
                      case rel => exact ⟨j + 1, _, _, by omega, by go_num, by rw [genTo_succ, rowsTo_succ, ← HQ.out, ← HLL.out]; exact H9.out⟩
                      case measure => simp [intOf]; omega
                    · refine lOp_special' rfl (fun u w' => u = .slice (some ⟨blk u, 0, none⟩) 1 1 ∧ TT w w.heap.size va vsa (genTo k fs j) vr vsr (rowsTo fs j) [(.slice cp cn cc, genRow k q), (.slice ya L ycap, l)] ((blk u, .slice ya L ycap) :: [(xa, .slice cp cn cc)]) w') rfl (fun u wa wb h hb => ⟨h.1, h.2.grow hb⟩) (fun _ _ h => h.2.below) ?_ ?_
                      · intro wg hg
                        have hg1 := (And.right hg)
                        clear hg
                        go_simp
                        exact ⟨rfl, build_ok hg1⟩
                      rintro u ⟨wv, hu, hz⟩
                      obtain ⟨xb, rfl⟩ : ∃ x, u = .slice (some ⟨x, 0, none⟩) 1 1 := ⟨_, hu⟩
                      clear hz hu wv
                      (refine put_norm (K := lAny Try.prog .any _ _ _ _ _ _) ?_
                       intro K hK
                       go_simp
                       refine hK _ ?_
                       clear hK K)
                      refine lAny_step [9] (by kernel_rfl) (by decide) ?_
                      intro i hi
                      obtain rfl : i = 9 := by simpa using hi
                      clear hi
                      refine lOp_special' rfl (fun u w' => TT w w.heap.size u (vsa ++ [.slice cp cn cc]) (genTo k fs j ++ [genRow k q]) vr vsr (rowsTo fs j) [(.slice cp cn cc, genRow k q), (.slice ya L ycap, l)] [(xb, .slice ya L ycap), (xa, .slice cp cn cc)] w') rfl (fun u wa wb h hb => h.grow hb) (fun _ _ h => h.below) (fun wg hg => sUpon_left (.tmp 81) (.tmp 89) rfl rfl rfl ((And.right hg)) (by rw [genTo_len]; omega) (by simp) (by simp)) ?_
                      rintro va2 _
                      (refine put_norm (K := lAny Try.prog .any _ _ _ _ _ _) ?_
                       intro K hK
                       go_simp
                       refine hK _ ?_
                       clear hK K)
                      refine lAny_step [17] (by kernel_rfl) (by decide) ?_
                      intro i hi
                      obtain rfl : i = 17 := by simpa using hi
                      clear hi
                      refine lOp_special' rfl (fun u w' => TT w w.heap.size va2 (vsa ++ [.slice cp cn cc]) (genTo k fs j ++ [genRow k q]) u (vsr ++ [.slice ya L ycap]) (rowsTo fs j ++ [l]) [(.slice cp cn cc, genRow k q), (.slice ya L ycap, l)] [(xb, .slice ya L ycap), (xa, .slice cp cn cc)] w') rfl (fun u wa wb h hb => h.grow hb) (fun _ _ h => h.below) (fun wg hg => sUpon_right (.tmp 91) (.tmp 97) rfl rfl rfl ((id hg)) (by rw [rowsTo_len]; omega) (by simp) (by simp)) ?_
                      rintro vr2 _
                      (refine put_norm (K := lAny Try.prog .any _ _ _ _ _ _) ?_
                       intro K hK
                       go_simp
                       refine hK _ ?_
                       clear hK K)
                      refine lAny_step [18] (by kernel_rfl) (by decide) ?_
                      intro i hi
                      obtain rfl : i = 18 := by simpa using hi
                      clear hi
                      refine lOp_same va2 rfl rfl (by intro wg hg; go_simp; exact Below.refl _ _) ?_
                      (refine put_norm (K := lAny Try.prog .any _ _ _ _ _ _) ?_
                       intro K hK
                       go_simp
                       refine hK _ ?_
                       clear hK K)
                      refine lAny_step [19] (by kernel_rfl) (by decide) ?_
                      intro i hi
                      obtain rfl : i = 19 := by simpa using hi
                      clear hi
                      refine lOp_same vr2 rfl rfl (by intro wg hg; go_simp; exact Below.refl _ _) ?_
                      (refine put_norm (K := lAny Try.prog .any _ _ _ _ _ _) ?_
                       intro K hK
                       go_simp
                       refine hK _ ?_
                       clear hK K)
                      refine lAny_end (by kernel_rfl) ?_
                      intro w9 hw9
                      have H9 := Lib.hid (id hw9).clean
                      clear hw9
                      go_wp2_with fail
                      go_roundw
                      case rel => exact ⟨j + 1, _, _, by omega, by go_num, by rw [genTo_succ, rowsTo_succ, ← HQ.out, ← HLL.out]; exact H9.out⟩
                      case measure => simp [intOf]; omega
                  · refine lOp_special' rfl (fun u w' => u = .slice (some ⟨blk u, 0, none⟩) 1 1 ∧ TT w w.heap.size va vsa (genTo k fs j) vr vsr (rowsTo fs j) [(.slice cp cn cc, genRow k q), (.slice ya L ycap, l)] ((blk u, .slice ya L ycap) :: []) w') rfl (fun u wa wb h hb => ⟨h.1, h.2.grow hb⟩) (fun _ _ h => h.2.below) ?_ ?_
                    · intro wg hg
                      have hg1 := (And.right hg)
                      clear hg
                      go_simp
                      exact ⟨rfl, build_ok hg1⟩
                    rintro u ⟨wv, hu, hz⟩
                    obtain ⟨xb, rfl⟩ : ∃ x, u = .slice (some ⟨x, 0, none⟩) 1 1 := ⟨_, hu⟩
                    clear hz hu wv
                    (refine put_norm (K := lAny Try.prog .any _ _ _ _ _ _) ?_
                     intro K hK
                     go_simp
                     refine hK _ ?_
                     clear hK K)
                    refine lAny_step [8] (by kernel_rfl) (by decide) ?_
                    intro i hi
                    obtain rfl : i = 8 := by simpa using hi
                    clear hi
                    refine lOp_special' rfl (fun u w' => u = .slice (some ⟨blk u, 0, none⟩) 1 1 ∧ TT w w.heap.size va vsa (genTo k fs j) vr vsr (rowsTo fs j) [(.slice cp cn cc, genRow k q), (.slice ya L ycap, l)] ((blk u, .slice cp cn cc) :: [(xb, .slice ya L ycap)]) w') rfl (fun u wa wb h hb => ⟨h.1, h.2.grow hb⟩) (fun _ _ h => h.2.below) ?_ ?_
                    · intro wg hg
                      have hg1 := (And.right hg)
                      clear hg
                      go_simp
                      exact ⟨rfl, build_ok hg1⟩
                    rintro u ⟨wv, hu, hz⟩
                    obtain ⟨xa, rfl⟩ : ∃ x, u = .slice (some ⟨x, 0, none⟩) 1 1 := ⟨_, hu⟩
                    clear hz hu wv
                    (refine put_norm (K := lAny Try.prog .any _ _ _ _ _ _) ?_
                     intro K hK
                     go_simp
                     refine hK _ ?_
                     clear hK K)
                    refine lAny_step [9] (by kernel_rfl) (by decide) ?_
                    intro i hi
                    obtain rfl : i = 9 := by simpa using hi
                    clear hi
                    refine lOp_special' rfl (fun u w' => TT w w.heap.size u (vsa ++ [.slice cp cn cc]) (genTo k fs j ++ [genRow k q]) vr vsr (rowsTo fs j) [(.slice cp cn cc, genRow k q), (.slice ya L ycap, l)] [(xa, .slice cp cn cc), (xb, .slice ya L ycap)] w') rfl (fun u wa wb h hb => h.grow hb) (fun _ _ h => h.below) (fun wg hg => sUpon_left (.tmp 81) (.tmp 89) rfl rfl rfl ((And.right hg)) (by rw [genTo_len]; omega) (by simp) (by simp)) ?_
                    rintro va2 _
                    (refine put_norm (K := lAny Try.prog .any _ _ _ _ _ _) ?_
                     intro K hK
                     go_simp
                     refine hK _ ?_
                     clear hK K)
                    refine lAny_step [17] (by kernel_rfl) (by decide) ?_
                    intro i hi
                    obtain rfl : i = 17 := by simpa using hi
                    clear hi
                    refine lOp_special' rfl (fun u w' => TT w w.heap.size va2 (vsa ++ [.slice cp cn cc]) (genTo k fs j ++ [genRow k q]) u (vsr ++ [.slice ya L ycap]) (rowsTo fs j ++ [l]) [(.slice cp cn cc, genRow k q), (.slice ya L ycap, l)] [(xa, .slice cp cn cc), (xb, .slice ya L ycap)] w') rfl (fun u wa wb h hb => h.grow hb) (fun _ _ h => h.below) (fun wg hg => sUpon_right (.tmp 91) (.tmp 97) rfl rfl rfl ((id hg)) (by rw [rowsTo_len]; omega) (by simp) (by simp)) ?_
                    rintro vr2 _
                    (refine put_norm (K := lAny Try.prog .any _ _ _ _ _ _) ?_
                     intro K hK
                     go_simp
                     refine hK _ ?_
                     clear hK K)
                    refine lAny_step [18] (by kernel_rfl) (by decide) ?_
                    intro i hi
                    obtain rfl : i = 18 := by simpa using hi
                    clear hi
                    refine lOp_same va2 rfl rfl (by intro wg hg; go_simp; exact Below.refl _ _) ?_
                    (refine put_norm (K := lAny Try.prog .any _ _ _ _ _ _) ?_
                     intro K hK
                     go_simp
                     refine hK _ ?_
                     clear hK K)
                    refine lAny_step [19] (by kernel_rfl) (by decide) ?_
                    intro i hi
                    obtain rfl : i = 19 := by simpa using hi
                    clear hi
                    refine lOp_same vr2 rfl rfl (by intro wg hg; go_simp; exact Below.refl _ _) ?_
                    (refine put_norm (K := lAny Try.prog .any _ _ _ _ _ _) ?_
                     intro K hK
                     go_simp
                     refine hK _ ?_
                     clear hK K)
                    refine lAny_end (by kernel_rfl) ?_
                    intro w9 hw9
                    have H9 := Lib.hid (id hw9).clean
                    clear hw9
                    go_wp2_with fail
                    go_roundw
                    case rel => exact ⟨j + 1, _, _, by omega, by go_num, by rw [genTo_succ, rowsTo_succ, ← HQ.out, ← HLL.out]; exact H9.out⟩
                    case measure => simp [intOf]; omega
                · refine lOp_special' rfl (fun u w' => u = .slice (some ⟨blk u, 0, none⟩) 1 1 ∧ TT w w.heap.size va vsa (genTo k fs j) vr vsr (rowsTo fs j) [(.slice ya L ycap, l)] ((blk u, .slice ya L ycap) :: []) w') rfl (fun u wa wb h hb => ⟨h.1, h.2.grow hb⟩) (fun _ _ h => h.2.below) ?_ ?_
                  · intro wg hg
                    have hg1 := (id hg)
                    clear hg
                    go_simp
                    exact ⟨rfl, build_ok hg1⟩
                  rintro u ⟨wv, hu, hz⟩
                  obtain ⟨xb, rfl⟩ : ∃ x, u = .slice (some ⟨x, 0, none⟩) 1 1 := ⟨_, hu⟩
                  clear hz hu wv
                  (refine put_norm (K := lAny Try.prog .any _ _ _ _ _ _) ?_
                   intro K hK
                   go_simp
                   refine hK _ ?_
                   clear hK K)
                  refine lAny_step [7] (by kernel_rfl) (by decide) ?_
                  intro i hi
                  obtain rfl : i = 7 := by simpa using hi
                  clear hi
                  refine lOp_special' rfl (fun u w' => (∃ p n c, u = .slice p n c) ∧ TT w w.heap.size va vsa (genTo k fs j) vr vsr (rowsTo fs j) ((u, genRow k q) :: [(.slice ya L ycap, l)]) [(xb, .slice ya L ycap)] w') rfl (fun u wa wb h hb => ⟨h.1, h.2.grow hb⟩) (fun _ _ h => h.2.below) ?_ ?_
                  · intro wg hg
                    have hg1 := (And.right hg)
                    clear hg
                    go_simp
                    refine (factors_any k q _ (by omega) (by omega)).mono ?_
                    rintro e w5 ⟨_, rfl, hc1, ⟨rb, rn, rcap, rc, rfl, _, hc4⟩, hc5⟩
                    exact ⟨_, rfl, ⟨_, _, _, rfl⟩, hg1.call hc5 (Kept.fresh hc1 rfl hc4)⟩
                  rintro _ ⟨wv, ⟨cp, cn, cc, rfl⟩, _⟩
                  (refine put_norm (K := lAny Try.prog .any _ _ _ _ _ _) ?_
                   intro K hK
                   go_simp
                   refine hK _ ?_
                   clear hK K)
                  refine lAny_step [8] (by kernel_rfl) (by decide) ?_
                  intro i hi
                  obtain rfl : i = 8 := by simpa using hi
                  clear hi
                  refine lOp_special' rfl (fun u w' => u = .slice (some ⟨blk u, 0, none⟩) 1 1 ∧ TT w w.heap.size va vsa (genTo k fs j) vr vsr (rowsTo fs j) [(.slice cp cn cc, genRow k q), (.slice ya L ycap, l)] ((blk u, .slice cp cn cc) :: [(xb, .slice ya L ycap)]) w') rfl (fun u wa wb h hb => ⟨h.1, h.2.grow hb⟩) (fun _ _ h => h.2.below) ?_ ?_
                  · intro wg hg
                    have hg1 := (And.right hg)
                    clear hg
                    go_simp
                    exact ⟨rfl, build_ok hg1⟩
                  rintro u ⟨wv, hu, hz⟩
                  obtain ⟨xa, rfl⟩ : ∃ x, u = .slice (some ⟨x, 0, none⟩) 1 1 := ⟨_, hu⟩
                  clear hz hu wv
                  (refine put_norm (K := lAny Try.prog .any _ _ _ _ _ _) ?_
                   intro K hK
                   go_simp
                   refine hK _ ?_
                   clear hK K)
                  refine lAny_step [9] (by kernel_rfl) (by decide) ?_
                  intro i hi
                  obtain rfl : i = 9 := by simpa using hi
                  clear hi
                  refine lOp_special' rfl (fun u w' => TT w w.heap.size u (vsa ++ [.slice cp cn cc]) (genTo k fs j ++ [genRow k q]) vr vsr (rowsTo fs j) [(.slice cp cn cc, genRow k q), (.slice ya L ycap, l)] [(xa, .slice cp cn cc), (xb, .slice ya L ycap)] w') rfl (fun u wa wb h hb => h.grow hb) (fun _ _ h => h.below) (fun wg hg => sUpon_left (.tmp 81) (.tmp 89) rfl rfl rfl ((And.right hg)) (by rw [genTo_len]; omega) (by simp) (by simp)) ?_
                  rintro va2 _
                  (refine put_norm (K := lAny Try.prog .any _ _ _ _ _ _) ?_
                   intro K hK
                   go_simp
                   refine hK _ ?_
                   clear hK K)
                  refine lAny_step [17] (by kernel_rfl) (by decide) ?_
                  intro i hi
                  obtain rfl : i = 17 := by simpa using hi
                  clear hi
                  refine lOp_special' rfl (fun u w' => TT w w.heap.size va2 (vsa ++ [.slice cp cn cc]) (genTo k fs j ++ [genRow k q]) u (vsr ++ [.slice ya L ycap]) (rowsTo fs j ++ [l]) [(.slice cp cn cc, genRow k q), (.slice ya L ycap, l)] [(xa, .slice cp cn cc), (xb, .slice ya L ycap)] w') rfl (fun u wa wb h hb => h.grow hb) (fun _ _ h => h.below) (fun wg hg => sUpon_right (.tmp 91) (.tmp 97) rfl rfl rfl ((id hg)) (by rw [rowsTo_len]; omega) (by simp) (by simp)) ?_
                  rintro vr2 _
                  (refine put_norm (K := lAny Try.prog .any _ _ _ _ _ _) ?_
                   intro K hK
                   go_simp
                   refine hK _ ?_
                   clear hK K)
                  refine lAny_step [18] (by kernel_rfl) (by decide) ?_
                  intro i hi
                  obtain rfl : i = 18 := by simpa using hi
                  clear hi
                  refine lOp_same va2 rfl rfl (by intro wg hg; go_simp; exact Below.refl _ _) ?_
                  (refine put_norm (K := lAny Try.prog .any _ _ _ _ _ _) ?_
                   intro K hK
                   go_simp
                   refine hK _ ?_
                   clear hK K)
                  refine lAny_step [19] (by kernel_rfl) (by decide) ?_
                  intro i hi
                  obtain rfl : i = 19 := by simpa using hi
                  clear hi
                  refine lOp_same vr2 rfl rfl (by intro wg hg; go_simp; exact Below.refl _ _) ?_
                  (refine put_norm (K := lAny Try.prog .any _ _ _ _ _ _) ?_
                   intro K hK
                   go_simp
                   refine hK _ ?_
                   clear hK K)
                  refine lAny_end (by kernel_rfl) ?_
                  intro w9 hw9
                  have H9 := Lib.hid (id hw9).clean
                  clear hw9
                  go_wp2_with fail
                  go_roundw
                  case rel => exact ⟨j + 1, _, _, by omega, by go_num, by rw [genTo_succ, rowsTo_succ, ← HQ.out, ← HLL.out]; exact H9.out⟩
                  case measure => simp [intOf]; omega
              · obtain rfl : j = k := by omega
                clear hj hjk
                have hmA : Mat wt u11 (genMat j fs) := HT.out.ra.mat (by rw [genTo_len]; omega)
                have hmR : Mat wt u12 (rowsTo fs j) := HT.out.rr.mat (by rw [rowsTo_len]; omega)
                have HMA := Lib.hid hmA
                have HMR := Lib.hid hmR
                have HBT := Lib.hid HT.out.below
                have hgt := HT.out.size
                clear hmA hmR
                have hno : dupTo fs j = false := by
                  cases h : dupTo fs j with
                  | false => rfl
                  | true =>
                    obtain ⟨x, y, h1, h2, h3⟩ := (dupTo_iff fs j).1 h
                    have := (dupTo_iff fs p).2 ⟨x, y, h1, by omega, h3⟩
                    rw [HD.out] at this; cases this
                obtain ⟨u, hu⟩ := gen_ok (k := j) (m := m) (fs := fs) h8 (fun i hi => HI.out i (by omega)) hno
                have HU := Lib.hid hu
                clear hu hno
                have hG2 := Lib.hid (HB0.out 0 (by omega))
                have INV : Hid (∀ w0 : World, Mat w0 u11 (genMat j fs) → Calls Try.prog 40 #[u11] w0 (fun e wI => ∃ vi, e = .returned (.tuple #[vi, .int .i64 0]) ∧ Mat wI vi (invOf j (genMat j fs)) ∧ Below w0.heap.size w0 wI)) := Lib.hid fun w0 hm0 => by
                  refine (refInvert_sq (genMat j fs) j _ _ hm0 (genMat_len _ _) h1 (by omega) (fun i hi => by rw [genMat_row fs hi, genRow_len])).mono ?_
                  rintro e wI (⟨u', vi, hu', rfl, hm', hb'⟩ | ⟨hu', _⟩)
                  · exact ⟨vi, rfl, by rw [invOf_eq hu']; exact hm', hb'⟩
                  · rw [HU.out] at hu'; cases hu'
                go_wp2_with (first | (go_at_call 40; refine (INV.out _ HMA.out).mono ?_; rintro e wI ⟨vi, rfl, hm', hb'⟩; (obtain ⟨ia, icap, hvi, _⟩ := hm'.open); subst hvi; (have HMI := Lib.hid hm'); (have HBI := Lib.hid hb'); clear hm' hb'))
                have hil : (invOf j (genMat j fs)).length = j := by rw [invOf_eq HU.out]; simp [outRows]
                have HIL := Lib.hid hil
                rw [hil]
                have hgi := HBI.out.size
                clear hil
                have HBWI := Lib.hid (HBT.out.trans (HBI.out.mono hgt))
                have HMR2 := Lib.hid (HMR.out.below HBI.out (Nat.le_refl _))
                by_cases hlv : Level (rowsTo fs j)
                · have HLV := Lib.hid hlv
                  clear hlv
                  go_loopw [16, 17] (fun v i wd => ∃ (b : Nat) (vs : List Value), b ≤ j ∧ i = .int .i64 b ∧ Below wI.heap.size wI wd ∧ RowsO wd wI.heap.size 31 5 v vs (dataTo j fs b)) (fun _ i _ => j - (intOf i).toNat)
                  case atStart => exact ⟨0, [], by omega, rfl, Below.refl _ _, RowsO.nil _ _ _ _⟩
                  case round =>
                    rename World => wd
                    obtain ⟨b, vs, hb, rfl, hbd, hrd⟩ := hrel
                    have HBD := Lib.hid hbd
                    have HRD := Lib.hid hrd
                    have hgd := hbd.size
                    clear hbd hrd
                    by_cases hbj : b < j
                    · obtain ⟨ib, io, yi, he, hib, hic, hiy⟩ := HMI.out.cell (i := b) (by rw [HIL.out]; exact hbj)
                      subst he
                      have hic' := (HBD.out.cell (p := ⟨ib, io + b, none⟩) hib).trans hic
                      have HIY := Lib.hid (hiy.below HBD.out (Nat.le_refl _))
                      clear hic hiy
                      go_wp2_with (first | (go_at_call 34; refine (refCombine_fit ((invOf j (genMat j fs)).getD b []) (rowsTo fs j) _ _ _ HIY.out (HMR2.out.below HBD.out (Nat.le_refl _)) ⟨by rw [invRow_len HU.out hbj]; omega, by rw [invRow_len HU.out hbj, rowsTo_len], HLV.out⟩ (by rw [rowsTo_getD _ _ _ (by omega)]; exact hG2.out)).mono ?_; rintro e w5 ⟨_, rfl, ⟨hc3, ⟨rb, rn, rcap, rc, rfl, _, hc4⟩⟩, hc5⟩; have HK5 := Lib.hid (And.intro (Kept.fresh (B := wI.heap.size) hc3 rfl hc4) hc5); clear hc3 hc4 hc5) | (at_builtin; refine app_row (w0 := wI) rfl (.tmp 122) (.tmp 124) rfl (l := GF.comb ((invOf j (genMat j fs)).getD b []) (rowsTo fs j)) b (HRD.out.below HK5.out.2) (dataTo_len _ _ _) (by omega) HK5.out.1 (HBD.out.trans (HK5.out.2.mono hgd)) (by have := HK5.out.2.size; omega) rfl rfl ?_; intro v' w6 h6))
                      go_roundw
                      case rel => exact ⟨b + 1, _, by omega, by go_num, h6.out.2, by rw [dataTo_succ]; exact h6.out.1⟩
                      case measure => simp [intOf]; omega
                    · obtain rfl : b = j := by omega
                      have hmD : Mat wd u16 (dataOf b fs) := HRD.out.mat (by rw [dataTo_len]; omega)
                      have HMD := Lib.hid hmD
                      clear hmD hb hbj
                      go_wp2_with (go_at_call 14; refine (refEnc_ok b m (dataOf b fs) _ _ HMD.out HC.out (dataOf_len _ _) (dataOf_level _ _ h1) (by rw [dataOf_rowlen fs (by omega)]; exact hG2.out)).mono ?_; rintro e w7 ⟨vo, vso, rfl, hro, hb7⟩; have HO := Lib.hid (show Mat w7 vo (wordOf b m fs) from hro.mat (by rw [wordTo_len]; omega)); (have hB7 : Below w.heap.size w w7 := (HBWI.out.trans (HBD.out.mono (by omega))).trans (hb7.mono (by omega))); have HB7 := Lib.hid hB7; have HMD7 := Lib.hid (HMD.out.below hb7 (Nat.le_refl _)); clear hro hb7 hB7)
                      obtain ⟨oa, ocap, rfl, _⟩ := HO.out.open
                      obtain ⟨N, hNN⟩ : ∃ N, N = b + m := ⟨_, rfl⟩
                      have hwl : (wordOf b m fs).length = N := by unfold wordOf; rw [wordTo_len, hNN]
                      have HWL := Lib.hid hwl
                      rw [hwl]
                      have HNN := Lib.hid hNN
                      clear hwl hNN
                      have hg7 := HB7.out.size
                      go_loopw [22] (fun q w8 => ∃ t : Nat, t ≤ p ∧ q = .int .i64 t ∧ Below w7.heap.size w7 w8 ∧ Fits b m fs t) (fun q _ => p - (intOf q).toNat)
                      case atStart => exact ⟨0, by omega, rfl, Below.refl _ _, fun q hq => by omega⟩
                      case round =>
                        rename World => w8
                        obtain ⟨t, htp, rfl, hb8, hfi⟩ := hrel
                        have HB8 := Lib.hid hb8
                        have HFI := Lib.hid hfi
                        clear hb8 hfi
                        have hg8 := HB8.out.size
                        by_cases htp2 : t < p
                        · obtain ⟨fb, fo, y, he, hfb, hc0, hc1, hby⟩ := HF.out.cell (i := t) (by have := HN.out; omega)
                          subst he
                          have hc0' := (HB8.out.cell (p := ⟨fb, fo + t * 2, none⟩) (by show fb < w7.heap.size; omega)).trans ((HB7.out.cell (p := ⟨fb, fo + t * 2, none⟩) hfb).trans hc0)
                          have hc1' := (HB8.out.cell (p := ⟨fb, fo + t * 2 + 1, none⟩) (by show fb < w7.heap.size; omega)).trans ((HB7.out.cell (p := ⟨fb, fo + t * 2 + 1, none⟩) hfb).trans hc1)
                          have hia := HI.out t (by omega)
                          obtain ⟨q, hq⟩ : ∃ q : Nat, q = (fragD fs t).1.toNat := ⟨_, rfl⟩
                          have hqe : (fragD fs t).1 = (q : Int) := by omega
                          rw [hqe] at hc0'
                          have hqlt : q < N := by have := HNN.out; omega
                          have HQ := Lib.hid hq
                          obtain ⟨ya, ycap, rfl, hyl⟩ := hby.open
                          obtain ⟨ob, oo, xo, he, hob, hxo, hbo⟩ := HO.out.cell (i := q) (by rw [HWL.out]; exact hqlt)
                          subst he
                          have hxo' := (HB8.out.cell (p := ⟨ob, oo + q, none⟩) hob).trans hxo
                          obtain ⟨l1, hl1⟩ : ∃ l, l = (fragD fs t).2 := ⟨_, rfl⟩
                          obtain ⟨l2, hl2⟩ : ∃ l, l = (wordOf b m fs).getD q [] := ⟨_, rfl⟩
                          rw [← hl1] at hc1' hby hyl
                          rw [← hl2] at hbo
                          obtain ⟨xa, xcap, rfl, hxl⟩ := hbo.open
                          have hy9 := ((hby.below HB7.out (Nat.le_refl _)).below HB8.out (Nat.le_refl _)).below (Below.refl _ w8).drew (Nat.le_refl _)
                          have ho9 := (hbo.below HB8.out (Nat.le_refl _)).below (Below.refl _ w8).drew (Nat.le_refl _)
                          have hcv1 := hy9.conv (P := Try.prog) (src := 31) (e := 5) (dst := 9) Try.underlying31 Try.underlying5 Try.underlying9
                          have hcv2 := ho9.conv (P := Try.prog) (src := 31) (e := 5) (dst := 9) Try.underlying31 Try.underlying5 Try.underlying9
                          have hss : strOf l2 = strOf l1 → l2 = l1 := fun h => strOf_inj hbo.2 hby.2 h
                          have HSS := Lib.hid hss
                          have HL1 := Lib.hid hl1
                          have HL2 := Lib.hid hl2
                          obtain ⟨n1, hn1⟩ : ∃ n, n = l1.length := ⟨_, rfl⟩
                          obtain ⟨n2, hn2⟩ : ∃ n, n = l2.length := ⟨_, rfl⟩
                          rw [← hn1] at hcv1 hc1'
                          rw [← hn2] at hcv2 hxo'
                          obtain ⟨S1, hS1⟩ : ∃ S, S = strOf l1 := ⟨_, rfl⟩
                          obtain ⟨S2, hS2⟩ : ∃ S, S = strOf l2 := ⟨_, rfl⟩
                          rw [← hS1] at hcv1
                          rw [← hS2] at hcv2
                          have HS1 := Lib.hid hS1
                          have HS2 := Lib.hid hS2
                          clear hc0 hc1 hby hia hqe hq hxo hbo hy9 ho9 hss hl1 hl2 hn1 hn2 hS1 hS2 hyl hxl
                          by_cases hSe : S2 = S1
                          · subst hSe
                            go_wp2_with fail
                            go_still (by kernel_rfl)
                            go_wp2_with fail
                            go_roundw
                            case rel => exact ⟨t + 1, by omega, by go_num, HB8.out.drew, fun z hz => by
                              by_cases e : z = t
                              · subst e; rw [← HQ.out, ← HL1.out, ← HL2.out]; exact HSS.out (by rw [← HS1.out, ← HS2.out])
                              · exact HFI.out z (by omega)⟩
                            case measure => simp [intOf]; omega
                          · have hsn : (S2 == S1) = false := Bool.eq_false_iff.2 fun h => hSe ((MapKept.bytes_beq _ _).1 h)
                            have hsn2 : (S2.toList == S1.toList) = false := by rw [← beq_toListBytes]; exact hsn
                            have HSE := Lib.hid hSe
                            clear hSe
                            go_wp2_with fail
                            go_still (by kernel_rfl)
                            go_wp2_with fail
                            go_ret2
                            have hnf : ¬ Fits b m fs p := fun h => HSE.out (by
                              have := h t (by omega)
                              rw [← HQ.out, ← HL1.out, ← HL2.out] at this
                              rw [HS1.out, HS2.out, this])
                            exact rd_nil (verdict_bad HN.out HI.out HD.out (by omega) hnf) (by decide) (HB7.out.trans (HB8.out.drew.mono hg7))
                        · obtain rfl : t = p := by omega
                          go_wp2_with fail
                          go_ret2
                          exact .inl ⟨verdict_ok HN.out HI.out HD.out (by omega) (fits_level h1 HI.out HFI.out) HFI.out, _, rfl, HMD7.out.below HB8.out (Nat.le_refl _), HB7.out.trans (HB8.out.mono hg7)⟩
                · have HLV := Lib.hid hlv
                  clear hlv
                  go_loopw [16, 17] (fun v i wd => v = .slice none 0 0 ∧ i = .int .i64 0 ∧ wd = wI) (fun _ _ _ => 0)
                  case atStart => exact ⟨rfl, rfl, rfl⟩
                  case round =>
                    obtain ⟨rfl, rfl, rfl⟩ := hrel
                    have h0j : 0 < j := by omega
                    obtain ⟨ib, io, yi, he, hib, hic, hiy⟩ := HMI.out.cell (i := 0) (by rw [HIL.out]; omega)
                    subst he
                    rw [Nat.add_zero] at hic
                    have HIY := Lib.hid hiy
                    clear hiy
                    go_wp2_with (go_at_call 34; refine (refCombine_fail ((invOf j (genMat j fs)).getD 0 []) (rowsTo fs j) _ _ _ HIY.out HMR2.out (fun h => HLV.out h.2.2)).mono ?_; rintro e w5 ⟨_, rfl, rfl, hc5⟩; have HK5 := Lib.hid hc5; clear hc5)
                    go_ret2
                    exact rd_nil (verdict_level HN.out HI.out HD.out (by omega) (fun h => HLV.out (level_take h (by omega)))) (by decide) (HBWI.out.trans (HK5.out.mono (by omega)))
end Go.Proofs.Ytojfeldafbabeaa
