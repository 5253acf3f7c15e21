/- The walk of the law ErasureSplits. -/
import Derived.Test.YtojfeldafbabeaaSr
import Derived.Test.YtojfeldafbabeaaS2
set_option linter.unusedVariables false
set_option linter.unusedSimpArgs false
set_option linter.unnecessarySimpa false
namespace Go.Proofs.Ytojfeldafbabeaa
open Go.RowKit Go.Mem Go.Deep

theorem bt {w a b : World} (h1 : Below w.heap.size w a) (h2 : Below a.heap.size a b) : Below w.heap.size w b := h1.trans (h2.mono h1.size)
theorem spl_flat (k s : Nat) (l : List Nat) : (spl k s l).flatten = (List.range (k * s)).map fun p => l.getD p 0 := by
  induction k with
  | zero => simp [spl]
  | succ k ih =>
    rw [spl_succ, List.flatten_append, ih, Nat.add_mul, Nat.one_mul, List.range_add, List.map_append]
    congr 1
    simp [splRow, Function.comp_def]
theorem spl_take {k s : Nat} {l : List Nat} (h : l.length ≤ k * s) : (spl k s l).flatten.take l.length = l := by
  rw [spl_flat, ← List.map_take, List.take_range, Nat.min_eq_left h]
  refine List.ext_getElem (by simp) fun i h1 h2 => ?_
  simp [h2]
theorem spl_short {k s : Nat} {l : List Nat} (hk : k ≤ 6) (hs : s ≤ 500) : Short (spl k s l) := by
  refine ⟨by rw [spl_len]; omega, fun i hi => ?_⟩
  rw [spl_len] at hi
  have : (spl k s l).getD i [] = splRow s l i := by simp [spl, hi]
  rw [this, splRow_len]; omega

theorem refSplit_any (k s : Int) (l : List Nat) (vl : Value) (w : World) (hl : Bytes w vl l) (hs : ¬ (500 < s ∧ s ≤ 4096)) (hl2 : l.length ≤ 2000) : Calls Try.prog 27 #[.int .i64 k, .int .i64 s, vl] w (SplitPost k s l w) := by
  by_cases hr : 1 ≤ k ∧ k ≤ 6 ∧ 0 ≤ s ∧ s ≤ 4096
  · obtain ⟨a, rfl⟩ : ∃ a : Nat, k = a := ⟨k.toNat, by omega⟩
    obtain ⟨b, rfl⟩ : ∃ b : Nat, s = b := ⟨s.toNat, by omega⟩
    exact refSplit_ok a b l vl w hl (by omega) (by omega) (by omega) hl2
  · exact (refSplit_bad k s l vl w hl hr).mono fun e w' h => .inl ⟨hr, h⟩
theorem split_any (k s : Int) (l : List Nat) (vl : Value) (w : World) (hl : Bytes w vl l) (hs : ¬ (500 < s ∧ s ≤ 4096)) (hl2 : l.length ≤ 2000) : Calls Try.prog 26 #[.int .i64 k, .int .i64 s, vl] w (SplitPost k s l w) := by
  by_cases hr : 1 ≤ k ∧ k ≤ 6 ∧ 0 ≤ s ∧ s ≤ 4096
  · obtain ⟨a, rfl⟩ : ∃ a : Nat, k = a := ⟨k.toNat, by omega⟩
    obtain ⟨b, rfl⟩ : ∃ b : Nat, s = b := ⟨s.toNat, by omega⟩
    exact split_ok a b l vl w hl (by omega) (by omega) (by omega) hl2
  · exact (split_bad k s l vl w hl hr).mono fun e w' h => .inl ⟨hr, h⟩

/-- the outcome of Split: E and rows -/
def SplE (E : Int) (k s : Int) (l : List Nat) (w : World) (e : Ending) (w' : World) : Prop := ∃ v, e = .returned (.tuple #[v, .int .i64 E]) ∧ (E ≠ 0 → v = .slice none 0 0) ∧ (E = 0 → Mat w' v (spl k.toNat s.toNat l)) ∧ Below w.heap.size w w'
theorem splE_of {k s : Int} {l : List Nat} : ∃ E : Int, (E = 0 ∨ E = 1 ∨ E = 2) ∧ (E = 0 → (1 ≤ k ∧ k ≤ 6 ∧ 0 ≤ s ∧ s ≤ 4096) ∧ (l.length : Int) ≤ k * s) ∧ ∀ w e w', SplitPost k s l w e w' → SplE E k s l w e w' := by
  by_cases hr : 1 ≤ k ∧ k ≤ 6 ∧ 0 ≤ s ∧ s ≤ 4096
  · by_cases hb : k * s < l.length
    · refine ⟨2, by omega, by omega, fun w e w' h => ?_⟩
      rcases h with ⟨h, _⟩ | ⟨_, _, rfl, hb2⟩ | ⟨_, h, _⟩
      · exact absurd hr h
      · exact ⟨_, rfl, fun _ => rfl, fun h => absurd h (by decide), hb2⟩
      · omega
    · refine ⟨0, by omega, fun _ => ⟨hr, by omega⟩, fun w e w' h => ?_⟩
      rcases h with ⟨h, _⟩ | ⟨_, h, _⟩ | ⟨_, _, v, rfl, hm, hb2⟩
      · exact absurd hr h
      · omega
      · exact ⟨v, rfl, fun h => absurd rfl h, fun _ => hm, hb2⟩
  · refine ⟨1, by omega, by omega, fun w e w' h => ?_⟩
    rcases h with ⟨_, rfl, hb2⟩ | ⟨h, _⟩ | ⟨h, _⟩
    · exact ⟨_, rfl, fun _ => rfl, fun h => absurd h (by decide), hb2⟩
    · exact absurd h hr
    · exact absurd h hr
/-- the outcome of Join: E and the bytes b (none where it refuses) -/
def JoiE (E : Int) (b : List Nat) (w : World) (e : Ending) (w' : World) : Prop := ∃ v, e = .returned (.tuple #[v, .int .i64 E]) ∧ Bytes w' v b ∧ Below w.heap.size w w'
theorem joiE_of {n : Int} {rows : List (List Nat)} : ∃ (E : Int) (b : List Nat), (E = 0 ∨ E = 1) ∧ (0 ≤ n ∧ n ≤ rows.flatten.length → E = 0 ∧ b = rows.flatten.take n.toNat) ∧ ∀ w e w', JoinPost n rows w e w' → JoiE E b w e w' := by
  by_cases hr : 0 ≤ n ∧ n ≤ rows.flatten.length
  · refine ⟨0, rows.flatten.take n.toNat, by omega, fun _ => ⟨rfl, rfl⟩, fun w e w' h => ?_⟩
    rcases h with ⟨_, _, v, rfl, hb, hb2⟩ | ⟨h, _⟩
    · exact ⟨v, rfl, hb, hb2⟩
    · exact absurd hr h
  · refine ⟨1, [], by omega, fun h => absurd h hr, fun w e w' h => ?_⟩
    rcases h with ⟨h1, h2, _⟩ | ⟨_, rfl, hb2⟩
    · exact absurd ⟨h1, h2⟩ hr
    · exact ⟨_, rfl, Bytes.nil _, hb2⟩

set_option maxRecDepth 100000 in
set_option maxHeartbeats 4000000 in
theorem splits_law (k s n : Int) (l : List Nat) (rows : List (List Nat)) (vl vr : Value) (w : World) (hl : Bytes w vl l) (hr : Mat w vr rows) :
    Calls Try.prog 10 #[.int .i64 k, .int .i64 s, vl, vr, .int .i64 n] w (Yes w) := by
  obtain ⟨la, lcap, rfl, _⟩ := hl.open
  obtain ⟨q, hq⟩ : ∃ q, q = l.length := ⟨_, rfl⟩
  rw [← hq] at hl ⊢
  have HL := Lib.hid hl
  have HR := Lib.hid hr
  have HQ := Lib.hid hq
  clear hl hr hq
  by_cases hq2 : 2000 < q
  · have hd : decide ((2000 : Int) < q) = true := by simp; omega
    go_enter Try.func10, Try.ntmps10
    go_wp2_with (go_at_call 12; refine (awake_any _).mono ?_; rintro e wa ⟨rfl, hba⟩; have HBA := Lib.hid hba; clear hba)
    go_ret
    exact ⟨rfl, HBA.out⟩
  · have hd : decide ((2000 : Int) < q) = false := by simp; omega
    have HQ2 := Lib.hid (show l.length ≤ 2000 by have := HQ.out; omega)
    clear hq2
    by_cases hs : 500 < s ∧ s ≤ 4096
    · have hd1 : decide (500 < s) = true := by simpa using hs.1
      have hd2 : decide (s ≤ 4096) = true := by simpa using hs.2
      clear hs
      go_enter Try.func10, Try.ntmps10
      go_wp2_with (first | (go_at_call 11; refine (long_any rows _ _ HR.out).mono ?_; rintro e w2 ⟨lb, rfl, rfl, hb⟩; have HSH := Lib.hid hb; clear hb) | (go_at_call 12; refine (awake_any _).mono ?_; rintro e wa ⟨rfl, hba⟩; have HBA := Lib.hid hba; clear hba))
      all_goals go_ret
      all_goals exact ⟨rfl, HBA.out⟩
    · have HS := Lib.hid hs
      obtain ⟨d1, hd1⟩ : ∃ d, decide (500 < s) = d := ⟨_, rfl⟩
      obtain ⟨d2, hd2⟩ : ∃ d, decide (s ≤ 4096) = d := ⟨_, rfl⟩
      have hdd : (d1 && d2) = false := by
        rw [← hd1, ← hd2, ← Bool.decide_and]
        simpa using hs
      clear hs
      obtain ⟨E, hE, hE0, hSpl0⟩ := splE_of (k := k) (s := s) (l := l)
      obtain ⟨F, b, hF, _, hJoi0⟩ := joiE_of (n := n) (rows := rows)
      have hSpl := Lib.hid (fun (w : World) e w' (h : SplitPost k s l w e w') => hSpl0 w e w' h)
      have hJoi := Lib.hid (fun (w : World) e w' (h : JoinPost n rows w e w') => hJoi0 w e w' h)
      have hrng := Lib.hid hE0
      have hFF : (F != F) = false := by simp
      have hEE : (E != E) = false := by simp
      obtain ⟨S, hS⟩ : ∃ S, S = strOf b := ⟨_, rfl⟩
      have HSB := Lib.hid hS
      clear hSpl0 hJoi0 hE0 hS hF
      by_cases hz : E = 0
      · subst hz
        have hrng2 := Lib.hid (hrng.out rfl)
        obtain ⟨G, b2, hG, hG2, hJo20⟩ := joiE_of (n := q) (rows := spl k.toNat s.toNat l)
        have h5 : l.length ≤ k.toNat * s.toNat := by
          have h := hrng2.out.2
          have h1 := hrng2.out.1
          have e1 : ((k.toNat : Nat) : Int) = k := by omega
          have e2 : ((s.toNat : Nat) : Int) = s := by omega
          rw [← e1, ← e2] at h
          exact_mod_cast h
        have hfit : (0 : Int) ≤ q ∧ (q : Int) ≤ (spl k.toNat s.toNat l).flatten.length := by
          refine ⟨by omega, ?_⟩
          rw [spl_flat, List.length_map, List.length_range]
          have := HQ.out
          omega
        obtain ⟨rfl, hb2⟩ := hG2 hfit
        rw [Int.toNat_natCast, HQ.out, spl_take h5] at hb2
        rw [hb2] at hJo20
        have hJo2 := Lib.hid (fun (w : World) e w' (h : JoinPost q (spl k.toNat s.toNat l) w e w') => hJo20 w e w' h)
        obtain ⟨S2, hS2⟩ : ∃ S, S = strOf l := ⟨_, rfl⟩
        have HSL := Lib.hid hS2
        clear hrng hJo20 hS2 hG hG2 hfit h5 hb2
        have hrng := hrng2
        clear hrng2
        cases d1
        · cases d2
          · clear hdd
            go_enter Try.func10, Try.ntmps10
            go_wp2_with (first | (go_at_call 11; refine (long_any rows _ _ HR.out).mono ?_; rintro e w2 ⟨lb, rfl, rfl, hb⟩; have HSH := Lib.hid hb; clear hb) | (go_at_call 12; refine (awake_any _).mono ?_; rintro e wa ⟨rfl, hba⟩; have HBA := Lib.hid hba; clear hba) | (go_at_call 26; go_loud ((have hsh := HSH.out (by first | assumption | exact Bool.eq_false_iff.2 (by assumption))); refine ((split_any k s l _ _ HL.out HS.out HQ2.out).mono (hSpl.out _)).mono ?_; rintro e w3 ⟨va, rfl, ha1, ha2, hb3⟩; (have ha3 := ha2 rfl); (have HA := Lib.hid (And.intro ha3 hb3)); clear ha1 ha2 hb3 ha3)) | (go_at_call 27; refine ((refSplit_any k s l _ _ (HL.out.below HA.out.2 (Nat.le_refl _)) HS.out HQ2.out).mono (hSpl.out _)).mono ?_; rintro e w4 ⟨vb, rfl, ha1, ha2, hb3⟩; (have ha3 := ha2 rfl); (have HB := Lib.hid (And.intro ha3 hb3)); clear ha1 ha2 hb3 ha3) | (have _t := tok1; go_at_call 28; refine ((join_any q (spl k.toNat s.toNat l) _ _ ((((HA.out.1.below HB.out.2 (Nat.le_refl _)).below HC.out.2 (Nat.le_refl _)).below HD.out.2 (Nat.le_refl _)).below HB7.out (Nat.le_refl _)) (spl_short (by have := hrng.out.1; omega) (by have := hrng.out.1; have := HS.out; omega))).mono (hJo2.out _)).mono ?_; rintro e w8 ⟨vj, rfl, hj1, hj2⟩; (have hcv3 := hj1.conv (P := Try.prog) (src := 31) (e := 5) (dst := 9) Try.underlying31 Try.underlying5 Try.underlying9); (have hcv4 := (((((HL.out.below HA.out.2 (Nat.le_refl _)).below HB.out.2 (Nat.le_refl _)).below HC.out.2 (Nat.le_refl _)).below HD.out.2 (Nat.le_refl _)).below HB7.out (Nat.le_refl _) |>.below hj2 (Nat.le_refl _)).conv (P := Try.prog) (src := 31) (e := 5) (dst := 9) Try.underlying31 Try.underlying5 Try.underlying9); rw [← HSL.out] at hcv3 hcv4; (have HJ3 := Lib.hid hj2); clear hj1 hj2) | (go_at_call 28; refine ((join_any n rows _ _ ((HR.out.below HA.out.2 (Nat.le_refl _)).below HB.out.2 (Nat.le_refl _)) hsh).mono (hJoi.out _)).mono ?_; rintro e w5 ⟨vc, rfl, hj1, hj2⟩; (have HC := Lib.hid (And.intro hj1 hj2)); clear hj1 hj2) | (go_at_call 29; refine ((refJoin_any n rows _ _ (((HR.out.below HA.out.2 (Nat.le_refl _)).below HB.out.2 (Nat.le_refl _)).below HC.out.2 (Nat.le_refl _)) hsh).mono (hJoi.out _)).mono ?_; rintro e w6 ⟨vd, rfl, hj1, hj2⟩; (have HD := Lib.hid (And.intro hj1 hj2)); clear hj1 hj2) | (go_at_call 15; refine (sameRows_any (spl k.toNat s.toNat l) _ _ _ (((HA.out.1.below HB.out.2 (Nat.le_refl _)).below HC.out.2 (Nat.le_refl _)).below HD.out.2 (Nat.le_refl _)) ((HB.out.1.below HC.out.2 (Nat.le_refl _)).below HD.out.2 (Nat.le_refl _))).mono ?_; rintro e w7 ⟨rfl, hb7⟩; (have hcv1 := ((HC.out.1.below HD.out.2 (Nat.le_refl _)).below hb7 (Nat.le_refl _)).conv (P := Try.prog) (src := 31) (e := 5) (dst := 9) Try.underlying31 Try.underlying5 Try.underlying9); (have hcv2 := (HD.out.1.below hb7 (Nat.le_refl _)).conv (P := Try.prog) (src := 31) (e := 5) (dst := 9) Try.underlying31 Try.underlying5 Try.underlying9); rw [← HSB.out] at hcv1 hcv2; (have HB7 := Lib.hid hb7); have tok1 : True := trivial; clear hb7))
            all_goals go_ret
            all_goals first | exact ⟨rfl, HBA.out⟩ | exact ⟨rfl, bt (bt (bt (bt (bt (bt HA.out.2 HB.out.2) HC.out.2) HD.out.2) HB7.out) HJ3.out) HBA.out⟩
          · clear hdd
            go_enter Try.func10, Try.ntmps10
            go_wp2_with (first | (go_at_call 11; refine (long_any rows _ _ HR.out).mono ?_; rintro e w2 ⟨lb, rfl, rfl, hb⟩; have HSH := Lib.hid hb; clear hb) | (go_at_call 12; refine (awake_any _).mono ?_; rintro e wa ⟨rfl, hba⟩; have HBA := Lib.hid hba; clear hba) | (go_at_call 26; go_loud ((have hsh := HSH.out (by first | assumption | exact Bool.eq_false_iff.2 (by assumption))); refine ((split_any k s l _ _ HL.out HS.out HQ2.out).mono (hSpl.out _)).mono ?_; rintro e w3 ⟨va, rfl, ha1, ha2, hb3⟩; (have ha3 := ha2 rfl); (have HA := Lib.hid (And.intro ha3 hb3)); clear ha1 ha2 hb3 ha3)) | (go_at_call 27; refine ((refSplit_any k s l _ _ (HL.out.below HA.out.2 (Nat.le_refl _)) HS.out HQ2.out).mono (hSpl.out _)).mono ?_; rintro e w4 ⟨vb, rfl, ha1, ha2, hb3⟩; (have ha3 := ha2 rfl); (have HB := Lib.hid (And.intro ha3 hb3)); clear ha1 ha2 hb3 ha3) | (have _t := tok1; go_at_call 28; refine ((join_any q (spl k.toNat s.toNat l) _ _ ((((HA.out.1.below HB.out.2 (Nat.le_refl _)).below HC.out.2 (Nat.le_refl _)).below HD.out.2 (Nat.le_refl _)).below HB7.out (Nat.le_refl _)) (spl_short (by have := hrng.out.1; omega) (by have := hrng.out.1; have := HS.out; omega))).mono (hJo2.out _)).mono ?_; rintro e w8 ⟨vj, rfl, hj1, hj2⟩; (have hcv3 := hj1.conv (P := Try.prog) (src := 31) (e := 5) (dst := 9) Try.underlying31 Try.underlying5 Try.underlying9); (have hcv4 := (((((HL.out.below HA.out.2 (Nat.le_refl _)).below HB.out.2 (Nat.le_refl _)).below HC.out.2 (Nat.le_refl _)).below HD.out.2 (Nat.le_refl _)).below HB7.out (Nat.le_refl _) |>.below hj2 (Nat.le_refl _)).conv (P := Try.prog) (src := 31) (e := 5) (dst := 9) Try.underlying31 Try.underlying5 Try.underlying9); rw [← HSL.out] at hcv3 hcv4; (have HJ3 := Lib.hid hj2); clear hj1 hj2) | (go_at_call 28; refine ((join_any n rows _ _ ((HR.out.below HA.out.2 (Nat.le_refl _)).below HB.out.2 (Nat.le_refl _)) hsh).mono (hJoi.out _)).mono ?_; rintro e w5 ⟨vc, rfl, hj1, hj2⟩; (have HC := Lib.hid (And.intro hj1 hj2)); clear hj1 hj2) | (go_at_call 29; refine ((refJoin_any n rows _ _ (((HR.out.below HA.out.2 (Nat.le_refl _)).below HB.out.2 (Nat.le_refl _)).below HC.out.2 (Nat.le_refl _)) hsh).mono (hJoi.out _)).mono ?_; rintro e w6 ⟨vd, rfl, hj1, hj2⟩; (have HD := Lib.hid (And.intro hj1 hj2)); clear hj1 hj2) | (go_at_call 15; refine (sameRows_any (spl k.toNat s.toNat l) _ _ _ (((HA.out.1.below HB.out.2 (Nat.le_refl _)).below HC.out.2 (Nat.le_refl _)).below HD.out.2 (Nat.le_refl _)) ((HB.out.1.below HC.out.2 (Nat.le_refl _)).below HD.out.2 (Nat.le_refl _))).mono ?_; rintro e w7 ⟨rfl, hb7⟩; (have hcv1 := ((HC.out.1.below HD.out.2 (Nat.le_refl _)).below hb7 (Nat.le_refl _)).conv (P := Try.prog) (src := 31) (e := 5) (dst := 9) Try.underlying31 Try.underlying5 Try.underlying9); (have hcv2 := (HD.out.1.below hb7 (Nat.le_refl _)).conv (P := Try.prog) (src := 31) (e := 5) (dst := 9) Try.underlying31 Try.underlying5 Try.underlying9); rw [← HSB.out] at hcv1 hcv2; (have HB7 := Lib.hid hb7); have tok1 : True := trivial; clear hb7))
            all_goals go_ret
            all_goals first | exact ⟨rfl, HBA.out⟩ | exact ⟨rfl, bt (bt (bt (bt (bt (bt HA.out.2 HB.out.2) HC.out.2) HD.out.2) HB7.out) HJ3.out) HBA.out⟩
        · cases d2
          · clear hdd
            go_enter Try.func10, Try.ntmps10
            go_wp2_with (first | (go_at_call 11; refine (long_any rows _ _ HR.out).mono ?_; rintro e w2 ⟨lb, rfl, rfl, hb⟩; have HSH := Lib.hid hb; clear hb) | (go_at_call 12; refine (awake_any _).mono ?_; rintro e wa ⟨rfl, hba⟩; have HBA := Lib.hid hba; clear hba) | (go_at_call 26; go_loud ((have hsh := HSH.out (by first | assumption | exact Bool.eq_false_iff.2 (by assumption))); refine ((split_any k s l _ _ HL.out HS.out HQ2.out).mono (hSpl.out _)).mono ?_; rintro e w3 ⟨va, rfl, ha1, ha2, hb3⟩; (have ha3 := ha2 rfl); (have HA := Lib.hid (And.intro ha3 hb3)); clear ha1 ha2 hb3 ha3)) | (go_at_call 27; refine ((refSplit_any k s l _ _ (HL.out.below HA.out.2 (Nat.le_refl _)) HS.out HQ2.out).mono (hSpl.out _)).mono ?_; rintro e w4 ⟨vb, rfl, ha1, ha2, hb3⟩; (have ha3 := ha2 rfl); (have HB := Lib.hid (And.intro ha3 hb3)); clear ha1 ha2 hb3 ha3) | (have _t := tok1; go_at_call 28; refine ((join_any q (spl k.toNat s.toNat l) _ _ ((((HA.out.1.below HB.out.2 (Nat.le_refl _)).below HC.out.2 (Nat.le_refl _)).below HD.out.2 (Nat.le_refl _)).below HB7.out (Nat.le_refl _)) (spl_short (by have := hrng.out.1; omega) (by have := hrng.out.1; have := HS.out; omega))).mono (hJo2.out _)).mono ?_; rintro e w8 ⟨vj, rfl, hj1, hj2⟩; (have hcv3 := hj1.conv (P := Try.prog) (src := 31) (e := 5) (dst := 9) Try.underlying31 Try.underlying5 Try.underlying9); (have hcv4 := (((((HL.out.below HA.out.2 (Nat.le_refl _)).below HB.out.2 (Nat.le_refl _)).below HC.out.2 (Nat.le_refl _)).below HD.out.2 (Nat.le_refl _)).below HB7.out (Nat.le_refl _) |>.below hj2 (Nat.le_refl _)).conv (P := Try.prog) (src := 31) (e := 5) (dst := 9) Try.underlying31 Try.underlying5 Try.underlying9); rw [← HSL.out] at hcv3 hcv4; (have HJ3 := Lib.hid hj2); clear hj1 hj2) | (go_at_call 28; refine ((join_any n rows _ _ ((HR.out.below HA.out.2 (Nat.le_refl _)).below HB.out.2 (Nat.le_refl _)) hsh).mono (hJoi.out _)).mono ?_; rintro e w5 ⟨vc, rfl, hj1, hj2⟩; (have HC := Lib.hid (And.intro hj1 hj2)); clear hj1 hj2) | (go_at_call 29; refine ((refJoin_any n rows _ _ (((HR.out.below HA.out.2 (Nat.le_refl _)).below HB.out.2 (Nat.le_refl _)).below HC.out.2 (Nat.le_refl _)) hsh).mono (hJoi.out _)).mono ?_; rintro e w6 ⟨vd, rfl, hj1, hj2⟩; (have HD := Lib.hid (And.intro hj1 hj2)); clear hj1 hj2) | (go_at_call 15; refine (sameRows_any (spl k.toNat s.toNat l) _ _ _ (((HA.out.1.below HB.out.2 (Nat.le_refl _)).below HC.out.2 (Nat.le_refl _)).below HD.out.2 (Nat.le_refl _)) ((HB.out.1.below HC.out.2 (Nat.le_refl _)).below HD.out.2 (Nat.le_refl _))).mono ?_; rintro e w7 ⟨rfl, hb7⟩; (have hcv1 := ((HC.out.1.below HD.out.2 (Nat.le_refl _)).below hb7 (Nat.le_refl _)).conv (P := Try.prog) (src := 31) (e := 5) (dst := 9) Try.underlying31 Try.underlying5 Try.underlying9); (have hcv2 := (HD.out.1.below hb7 (Nat.le_refl _)).conv (P := Try.prog) (src := 31) (e := 5) (dst := 9) Try.underlying31 Try.underlying5 Try.underlying9); rw [← HSB.out] at hcv1 hcv2; (have HB7 := Lib.hid hb7); have tok1 : True := trivial; clear hb7))
            all_goals go_ret
            all_goals first | exact ⟨rfl, HBA.out⟩ | exact ⟨rfl, bt (bt (bt (bt (bt (bt HA.out.2 HB.out.2) HC.out.2) HD.out.2) HB7.out) HJ3.out) HBA.out⟩
          · exact absurd hdd (by decide)
      · have hne : (E != 0) = true := by rw [bne_iff_ne]; exact hz
        clear hrng
        have hz' := Lib.hid hz
        cases d1
        · cases d2
          · clear hdd
            go_enter Try.func10, Try.ntmps10
            go_wp2_with (first | (go_at_call 11; refine (long_any rows _ _ HR.out).mono ?_; rintro e w2 ⟨lb, rfl, rfl, hb⟩; have HSH := Lib.hid hb; clear hb) | (go_at_call 12; refine (awake_any _).mono ?_; rintro e wa ⟨rfl, hba⟩; have HBA := Lib.hid hba; clear hba) | (go_at_call 26; go_loud ((have hsh := HSH.out (by first | assumption | exact Bool.eq_false_iff.2 (by assumption))); refine ((split_any k s l _ _ HL.out HS.out HQ2.out).mono (hSpl.out _)).mono ?_; rintro e w3 ⟨va, rfl, ha1, ha2, hb3⟩; (have ha3 := ha1 hz'.out); subst ha3; (have HA := Lib.hid (And.intro True.intro hb3)); clear ha1 ha2 hb3)) | (go_at_call 27; refine ((refSplit_any k s l _ _ (HL.out.below HA.out.2 (Nat.le_refl _)) HS.out HQ2.out).mono (hSpl.out _)).mono ?_; rintro e w4 ⟨vb, rfl, ha1, ha2, hb3⟩; (have ha3 := ha1 hz'.out); subst ha3; (have HB := Lib.hid (And.intro True.intro hb3)); clear ha1 ha2 hb3) | (go_at_call 28; refine ((join_any n rows _ _ ((HR.out.below HA.out.2 (Nat.le_refl _)).below HB.out.2 (Nat.le_refl _)) hsh).mono (hJoi.out _)).mono ?_; rintro e w5 ⟨vc, rfl, hj1, hj2⟩; (have HC := Lib.hid (And.intro hj1 hj2)); clear hj1 hj2) | (go_at_call 29; refine ((refJoin_any n rows _ _ (((HR.out.below HA.out.2 (Nat.le_refl _)).below HB.out.2 (Nat.le_refl _)).below HC.out.2 (Nat.le_refl _)) hsh).mono (hJoi.out _)).mono ?_; rintro e w6 ⟨vd, rfl, hj1, hj2⟩; (have HD := Lib.hid (And.intro hj1 hj2)); clear hj1 hj2) | (go_at_call 15; refine (sameRows_any [] _ _ _ (Mat.nil _) (Mat.nil _)).mono ?_; rintro e w7 ⟨rfl, hb7⟩; (have hcv1 := ((HC.out.1.below HD.out.2 (Nat.le_refl _)).below hb7 (Nat.le_refl _)).conv (P := Try.prog) (src := 31) (e := 5) (dst := 9) Try.underlying31 Try.underlying5 Try.underlying9); (have hcv2 := (HD.out.1.below hb7 (Nat.le_refl _)).conv (P := Try.prog) (src := 31) (e := 5) (dst := 9) Try.underlying31 Try.underlying5 Try.underlying9); rw [← HSB.out] at hcv1 hcv2; (have HB7 := Lib.hid hb7); have tok1 : True := trivial; clear hb7))
            all_goals go_ret
            all_goals first | exact ⟨rfl, HBA.out⟩ | exact ⟨rfl, bt (bt (bt (bt (bt HA.out.2 HB.out.2) HC.out.2) HD.out.2) HB7.out) HBA.out⟩
          · clear hdd
            go_enter Try.func10, Try.ntmps10
            go_wp2_with (first | (go_at_call 11; refine (long_any rows _ _ HR.out).mono ?_; rintro e w2 ⟨lb, rfl, rfl, hb⟩; have HSH := Lib.hid hb; clear hb) | (go_at_call 12; refine (awake_any _).mono ?_; rintro e wa ⟨rfl, hba⟩; have HBA := Lib.hid hba; clear hba) | (go_at_call 26; go_loud ((have hsh := HSH.out (by first | assumption | exact Bool.eq_false_iff.2 (by assumption))); refine ((split_any k s l _ _ HL.out HS.out HQ2.out).mono (hSpl.out _)).mono ?_; rintro e w3 ⟨va, rfl, ha1, ha2, hb3⟩; (have ha3 := ha1 hz'.out); subst ha3; (have HA := Lib.hid (And.intro True.intro hb3)); clear ha1 ha2 hb3)) | (go_at_call 27; refine ((refSplit_any k s l _ _ (HL.out.below HA.out.2 (Nat.le_refl _)) HS.out HQ2.out).mono (hSpl.out _)).mono ?_; rintro e w4 ⟨vb, rfl, ha1, ha2, hb3⟩; (have ha3 := ha1 hz'.out); subst ha3; (have HB := Lib.hid (And.intro True.intro hb3)); clear ha1 ha2 hb3) | (go_at_call 28; refine ((join_any n rows _ _ ((HR.out.below HA.out.2 (Nat.le_refl _)).below HB.out.2 (Nat.le_refl _)) hsh).mono (hJoi.out _)).mono ?_; rintro e w5 ⟨vc, rfl, hj1, hj2⟩; (have HC := Lib.hid (And.intro hj1 hj2)); clear hj1 hj2) | (go_at_call 29; refine ((refJoin_any n rows _ _ (((HR.out.below HA.out.2 (Nat.le_refl _)).below HB.out.2 (Nat.le_refl _)).below HC.out.2 (Nat.le_refl _)) hsh).mono (hJoi.out _)).mono ?_; rintro e w6 ⟨vd, rfl, hj1, hj2⟩; (have HD := Lib.hid (And.intro hj1 hj2)); clear hj1 hj2) | (go_at_call 15; refine (sameRows_any [] _ _ _ (Mat.nil _) (Mat.nil _)).mono ?_; rintro e w7 ⟨rfl, hb7⟩; (have hcv1 := ((HC.out.1.below HD.out.2 (Nat.le_refl _)).below hb7 (Nat.le_refl _)).conv (P := Try.prog) (src := 31) (e := 5) (dst := 9) Try.underlying31 Try.underlying5 Try.underlying9); (have hcv2 := (HD.out.1.below hb7 (Nat.le_refl _)).conv (P := Try.prog) (src := 31) (e := 5) (dst := 9) Try.underlying31 Try.underlying5 Try.underlying9); rw [← HSB.out] at hcv1 hcv2; (have HB7 := Lib.hid hb7); have tok1 : True := trivial; clear hb7))
            all_goals go_ret
            all_goals first | exact ⟨rfl, HBA.out⟩ | exact ⟨rfl, bt (bt (bt (bt (bt HA.out.2 HB.out.2) HC.out.2) HD.out.2) HB7.out) HBA.out⟩
        · cases d2
          · clear hdd
            go_enter Try.func10, Try.ntmps10
            go_wp2_with (first | (go_at_call 11; refine (long_any rows _ _ HR.out).mono ?_; rintro e w2 ⟨lb, rfl, rfl, hb⟩; have HSH := Lib.hid hb; clear hb) | (go_at_call 12; refine (awake_any _).mono ?_; rintro e wa ⟨rfl, hba⟩; have HBA := Lib.hid hba; clear hba) | (go_at_call 26; go_loud ((have hsh := HSH.out (by first | assumption | exact Bool.eq_false_iff.2 (by assumption))); refine ((split_any k s l _ _ HL.out HS.out HQ2.out).mono (hSpl.out _)).mono ?_; rintro e w3 ⟨va, rfl, ha1, ha2, hb3⟩; (have ha3 := ha1 hz'.out); subst ha3; (have HA := Lib.hid (And.intro True.intro hb3)); clear ha1 ha2 hb3)) | (go_at_call 27; refine ((refSplit_any k s l _ _ (HL.out.below HA.out.2 (Nat.le_refl _)) HS.out HQ2.out).mono (hSpl.out _)).mono ?_; rintro e w4 ⟨vb, rfl, ha1, ha2, hb3⟩; (have ha3 := ha1 hz'.out); subst ha3; (have HB := Lib.hid (And.intro True.intro hb3)); clear ha1 ha2 hb3) | (go_at_call 28; refine ((join_any n rows _ _ ((HR.out.below HA.out.2 (Nat.le_refl _)).below HB.out.2 (Nat.le_refl _)) hsh).mono (hJoi.out _)).mono ?_; rintro e w5 ⟨vc, rfl, hj1, hj2⟩; (have HC := Lib.hid (And.intro hj1 hj2)); clear hj1 hj2) | (go_at_call 29; refine ((refJoin_any n rows _ _ (((HR.out.below HA.out.2 (Nat.le_refl _)).below HB.out.2 (Nat.le_refl _)).below HC.out.2 (Nat.le_refl _)) hsh).mono (hJoi.out _)).mono ?_; rintro e w6 ⟨vd, rfl, hj1, hj2⟩; (have HD := Lib.hid (And.intro hj1 hj2)); clear hj1 hj2) | (go_at_call 15; refine (sameRows_any [] _ _ _ (Mat.nil _) (Mat.nil _)).mono ?_; rintro e w7 ⟨rfl, hb7⟩; (have hcv1 := ((HC.out.1.below HD.out.2 (Nat.le_refl _)).below hb7 (Nat.le_refl _)).conv (P := Try.prog) (src := 31) (e := 5) (dst := 9) Try.underlying31 Try.underlying5 Try.underlying9); (have hcv2 := (HD.out.1.below hb7 (Nat.le_refl _)).conv (P := Try.prog) (src := 31) (e := 5) (dst := 9) Try.underlying31 Try.underlying5 Try.underlying9); rw [← HSB.out] at hcv1 hcv2; (have HB7 := Lib.hid hb7); have tok1 : True := trivial; clear hb7))
            all_goals go_ret
            all_goals first | exact ⟨rfl, HBA.out⟩ | exact ⟨rfl, bt (bt (bt (bt (bt HA.out.2 HB.out.2) HC.out.2) HD.out.2) HB7.out) HBA.out⟩
          · exact absurd hdd (by decide)
end Go.Proofs.Ytojfeldafbabeaa
