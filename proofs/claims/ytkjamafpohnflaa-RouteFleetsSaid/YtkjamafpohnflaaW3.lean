/- Walks of above, path, Meet. -/
import Derived.Test.YtkjamafpohnflaaW2
set_option linter.unusedVariables false
set_option linter.unusedSimpArgs false
set_option linter.unnecessarySimpa false
namespace Go.Proofs.Ytkjamafpohnflaa
open Go Go.RowKit Go.Mem

/-- node m is x, or below it, for any numbers -/
def belZ (l : List Int) (m x : Int) : Bool := decide (0 ≤ m) && decide (0 ≤ x) && Tree.bel l m.toNat x.toNat
theorem belZ_neg {l : List Int} {m : Int} (h : m < 0) (x : Int) : belZ l m x = false := by
  unfold belZ
  have : decide (0 ≤ m) = false := by simp; omega
  rw [this]; rfl
theorem belZ_nat (l : List Int) (a i : Nat) : belZ l a i = Tree.bel l a i := by simp [belZ]
theorem belZ_bound {l : List Int} {a : Nat} {x : Int} (h : belZ l a x = true) : 0 ≤ x ∧ x ≤ a := by
  unfold belZ at h
  simp only [Bool.and_eq_true, decide_eq_true_eq] at h
  have := Tree.bel_ge h.2
  omega
/-- one step up -/
theorem belZ_step {l : List Int} (ho : Tree.Ok l) {m : Nat} (hm : m < l.length) (x : Int) : belZ l m x = (x == (m : Int) || belZ l (l.getD m 0) x) := by
  by_cases hx : 0 ≤ x
  · obtain ⟨i, rfl⟩ : ∃ i : Nat, x = i := ⟨x.toNat, by omega⟩
    rw [belZ_nat]
    by_cases h0 : m = 0
    · subst h0
      rw [Tree.bel_root, ho.2.2.1, belZ_neg (by omega), Bool.or_false, Bool.eq_iff_iff]
      simp only [beq_iff_eq]; omega
    · rw [Tree.bel_step ho (by omega) hm, (Tree.up_lt ho (by omega) hm).2, belZ_nat]
      congr 1
      rw [Bool.eq_iff_iff]
      simp only [beq_iff_eq]; omega
  · have e1 : ∀ m : Int, belZ l m x = false := fun m => by
      unfold belZ
      have : decide (0 ≤ x) = false := by simp; omega
      rw [this, Bool.and_false]; rfl
    have e2 : (x == (m : Int)) = false := by simp; omega
    rw [e1, e1, e2]; rfl

def AboveIs (w : World) (l : List Int) (a : Nat) (e : Ending) (w' : World) : Prop := ∃ b, e = .returned (.map (some b)) ∧ w.heap.size ≤ b ∧ SetAt w' b (a + 1) (belZ l a) ∧ Below w.heap.size w w'

set_option maxHeartbeats 1000000 in
theorem above_any (v : Value) (l : List Int) (x : Nat) (w : World) (h : IntsAt w v l) (ho : Tree.Ok l) (hx : x < l.length) : Calls Try.prog 33 #[v, .int .i64 x] w (AboveIs w l x) := by
  obtain ⟨a, cap, rfl, hlen⟩ := h.open
  have H := Lib.hid h
  have HO := Lib.hid ho
  obtain ⟨n, hn⟩ : ∃ n, l.length = n := ⟨_, rfl⟩
  have HN := Lib.hid hn
  have hn64 : n ≤ 64 := by have := ho.2.1; omega
  rw [hn] at hx
  rw [hn] at hlen ⊢
  clear h ho hn
  have hmm := @run_makeMap Try.prog
  go_enter Try.func33, Try.ntmps33
  go_wp2_with fail
  go_loopw [1] (fun s wr => ∃ (m : Int) (k : Nat) (S : Int → Bool), s = .int .i64 m ∧ -1 ≤ m ∧ m ≤ x ∧ (k : Int) + m ≤ x ∧ Hid (SetAt wr w.heap.size k S) ∧ Hid (∀ y, (S y || belZ l m y) = belZ l x y) ∧ Hid (Below w.heap.size w wr)) (fun s _ => (intOf s + 1).toNat)
  case atStart => exact ⟨x, 0, _, rfl, by omega, by omega, by omega, SetAt.made w, fun y => by rw [Bool.false_or], below_alloc _ _⟩
  case round =>
    rename World => wr
    obtain ⟨m, k, S, rfl, hm1, hmx, hk, HS, HP, HB⟩ := hrel
    by_cases hm : 0 ≤ m
    · obtain ⟨y, rfl⟩ : ∃ y : Nat, m = y := ⟨m.toNat, by omega⟩
      have hyn : y < n := by omega
      have hk1 : k < 1000000 := by omega
      have HW := Lib.hid (show W64 (y : Int) from w64_small (by omega) (by omega))
      obtain ⟨b, off, rfl, hb, ck⟩ := (H.out.below HB.out (Nat.le_refl _)).cell (i := y) (by rw [HN.out]; exact hyn)
      obtain ⟨u, hu⟩ : ∃ u, l.getD y 0 = u := ⟨_, rfl⟩
      have hu1 : -1 ≤ u ∧ u < y := by
        by_cases h0 : y = 0
        · subst h0; rw [HO.out.2.2.1] at hu; omega
        · have := HO.out.2.2.2 y (by omega) (by rw [HN.out]; exact hyn); omega
      obtain ⟨hu2, hu3⟩ := hu1
      rw [hu] at ck
      have HC : ∀ w', Only [w.heap.size] wr w' → w'.cell? ⟨b, off + y, none⟩ = some (.int .i64 u) := fun w' hw' => by
        have hbw : b ≠ w.heap.size := by
          obtain ⟨b', off', e, hb', _⟩ := H.out.cell (i := y) (by rw [HN.out]; exact hyn)
          cases e; omega
        exact (World.cell?_of_block (a := ⟨b, off + y, none⟩) (hw'.block b hb (by simpa using hbw))).trans ck
      have HC' := Lib.hid HC
      have HQ := Lib.hid (show ∀ z, (put1 S y z || belZ l u z) = belZ l x z from fun z => by
        rw [← HP.out z, belZ_step HO.out (by rw [HN.out]; exact hyn), hu]
        unfold put1
        cases S z <;> simp)
      clear hu ck HC
      go_wp2_with (first
        | (at_mapUpdate; refine wpList_set_store rfl _ _ _ rfl rfl HS.out hk1 rfl HW.out rfl ?_; intro w2 HS2 HO2; have hc2 := HC'.out _ HO2.out; have HB2 := Lib.hid (HB.out.trans (HO2.out.below (fun s hs => by rw [List.mem_singleton.1 hs]; exact Nat.le_refl _) HB.out.size))))
      go_roundw
      case rel => exact ⟨u, k + 1, _, rfl, by omega, by omega, by omega, HS2, HQ, HB2⟩
      case measure => simp [intOf]; omega
    · have hm2 : m = -1 := by omega
      subst hm2
      have HE := Lib.hid (show SetAt wr w.heap.size (x + 1) (belZ l x) by
        have : S = belZ l x := funext fun y => by rw [← HP.out y, belZ_neg (by omega), Bool.or_false]
        rw [← this]
        exact HS.out.mono (by omega))
      go_wp2_with fail
      go_ret
      exact ⟨_, rfl, Nat.le_refl _, HE.out, HB.out⟩

/-- the links between two nodes -/
def pathS (l : List Int) (a b : Nat) (x : Int) : Bool := belZ l a x != belZ l b x
def PathIs (w : World) (l : List Int) (a b : Nat) (e : Ending) (w' : World) : Prop := ∃ k, e = .returned (.map (some k)) ∧ w.heap.size ≤ k ∧ SetAt w' k 200 (pathS l a b) ∧ Below w.heap.size w w'
def isMap (v : Value) (b : Nat) : Prop := v = .map (some b)

/-- one of path's loops: a range over p, q looked up, k filled -/
structure Pst (R : Nat) (w : World) (p q k r n m : Nat) (A B base : Int → Bool) (cnt : Nat) (L : Int → Bool) (kk : Nat) (M : Int → Bool) (wr : World) : Prop where
  rg : RgAt wr p r n A L cnt
  sq : SetAt wr q m B
  sk : SetAt wr k kk M
  room : kk + cnt ≤ R
  says : ∀ z, M z = (base z || (A z && !L z && !B z))
  below : Below w.heap.size w wr
  ne : p ≠ k ∧ q ≠ k ∧ r ≠ k ∧ r ≠ p ∧ r ≠ q ∧ w.heap.size ≤ r ∧ w.heap.size ≤ k
namespace Pst
variable {R : Nat} {w wr w' w'' : World} {p q k r n m cnt cnt' kk : Nat} {A B base L M : Int → Bool} {x : Int}
/-- an entry has come that q holds -/
theorem skip (h : Pst R w p q k r n m A B base cnt L kk M wr) (hr : RgAt w' p r n A (fun z => L z && !(z == x)) cnt') (hc : cnt' < cnt) (ho : Only [r] wr w') (hb : B x = true) : Pst R w p q k r n m A B base cnt' (fun z => L z && !(z == x)) kk M w' := by
  obtain ⟨n1, n2, n3, n4, n5, n6, n7⟩ := h.ne
  refine ⟨hr, h.sq.only ho (by simpa using n5.symm), h.sk.only ho (by simpa using n3.symm), by have := h.room; omega, fun z => ?_, h.below.trans (ho.below (fun s hs => by rw [List.mem_singleton.1 hs]; exact n6) h.below.size), h.ne⟩
  rw [h.says]
  by_cases e : z = x
  · subst e; simp [hb]
  · have : (z == x) = false := by simpa using e
    rw [this]; simp
/-- .. that q does not hold -/
theorem take (h : Pst R w p q k r n m A B base cnt L kk M wr) (hr : RgAt w' p r n A (fun z => L z && !(z == x)) cnt') (hc : cnt' < cnt) (ho : Only [r] wr w') (hx : L x = true) (hb : B x = false) (hs : SetAt w'' k (kk + 1) (put1 M x)) (ho2 : Only [k] w' w'') :
    Pst R w p q k r n m A B base cnt' (fun z => L z && !(z == x)) (kk + 1) (put1 M x) w'' := by
  obtain ⟨n1, n2, n3, n4, n5, n6, n7⟩ := h.ne
  have hA := h.rg.sub hx
  have b1 := h.below.trans (ho.below (fun s hs => by rw [List.mem_singleton.1 hs]; exact n6) h.below.size)
  refine ⟨hr.only ho2 (by simpa using n1) (by simpa using n3), (h.sq.only ho (by simpa using n5.symm)).only ho2 (by simpa using n2), hs, by have := h.room; omega, fun z => ?_, b1.trans (ho2.below (fun s hs => by rw [List.mem_singleton.1 hs]; exact n7) b1.size), h.ne⟩
  unfold put1
  rw [h.says]
  by_cases e : z = x
  · subst e; simp [hb, hA]
  · have : (z == x) = false := by simpa using e
    rw [this]; simp
/-- where the map that is filled lies after a step of the range -/
theorem fill (h : Pst R w p q k r n m A B base cnt L kk M wr) (ho : Only [r] wr w') : SetAt w' k kk M := h.sk.only ho (by simpa using h.ne.2.2.1.symm)
theorem other (h : Pst R w p q k r n m A B base cnt L kk M wr) (ho : Only [r] wr w') : SetAt w' q m B := h.sq.only ho (by simpa using h.ne.2.2.2.2.1.symm)
end Pst


set_option maxHeartbeats 2000000 in
theorem path_any (v : Value) (l : List Int) (x y : Nat) (w : World) (h : IntsAt w v l) (ho : Tree.Ok l) (hx : x < l.length) (hy : y < l.length) : Calls Try.prog 32 #[v, .int .i64 x, .int .i64 y] w (PathIs w l x y) := by
  obtain ⟨a, cap, rfl, hlen⟩ := h.open
  have H := Lib.hid h
  have HO := Lib.hid ho
  have hn64 : l.length ≤ 64 := ho.2.1
  have hx64 : x < 64 := by omega
  have hy64 : y < 64 := by omega
  have HX := Lib.hid hx
  have HY := Lib.hid hy
  clear h ho hx hy
  generalize hA : belZ l x = A
  generalize hB : belZ l y = B
  have HPS := Lib.hid (show ∀ z, pathS l x y z = (A z != B z) from fun z => by unfold pathS; rw [hA, hB])
  have K1 := fun w (h : IntsAt w (.slice a l.length cap) l) => Lib.hid (above_any _ l x w h HO.out HX.out)
  have K2 := fun w (h : IntsAt w (.slice a l.length cap) l) => Lib.hid (above_any _ l y w h HO.out HY.out)
  have HAA := Lib.hid hA
  have HBB := Lib.hid hB
  have hmm := @run_makeMap Try.prog
  clear hA hB
  generalize l.length = n at *
  go_enter Try.func32, Try.ntmps32
  go_wp2_with (first
    | (go_at_call 33; (with_reducible refine (K1 _ H.out).out.mono ?_); rintro e w1 ⟨ba, rfl, hba, hsa, hb1⟩; have HA := Lib.hid (HAA.out ▸ hsa); have hba2 := hsa.lt; have HB1 := Lib.hid hb1; have H1 := Lib.hid (H.out.keep hb1); clear hsa hb1)
    | (go_at_call 33; (with_reducible refine (K2 _ H1.out).out.mono ?_); rintro e w2 ⟨bb, rfl, hbb, hsb, hb2⟩; have HB := Lib.hid (HBB.out ▸ hsb); have hbb2 := hsb.lt; have HA2 := Lib.hid (HA.out.below hb2); have HB2 := Lib.hid (HB1.out.trans (hb2.mono HB1.out.size)); have hz1 := HB1.out.size; have hz2 := hb2.size; have HA3 := Lib.hid (HA2.out.below (below_alloc _ (.map #[] 0))); have HB3 := Lib.hid (HB.out.below (below_alloc _ (.map #[] 0))); have HK3 := Lib.hid (SetAt.made w2); have HW3 := Lib.hid (HB2.out.trans ((below_alloc w2 (.map #[] 0)).mono HB2.out.size)); clear hsb hb2)
    | (at_range; refine wpList_set_range rfl _ rfl rfl HA3.out ?_; intro w3 cnt0 HR0 hcnt0 HB4))
  obtain ⟨r, hr⟩ : ∃ r, (w2.alloc (Obj.map #[] 0)).heap.size = r := ⟨_, rfl⟩
  have hr1 : w2.heap.size < r := by rw [← hr]; simp
  rw [hr]
  rw [hr] at HR0 HB4
  have HP := Lib.hid (show Pst 64 w ba bb w2.heap.size r (x + 1) (y + 1) A B (fun _ => false) cnt0 A 0 (fun _ => false) w3 from
    ⟨HR0.out, HB3.out.below (hr ▸ HB4.out), HK3.out.below (hr ▸ HB4.out), by omega, fun z => by cases A z <;> simp, HW3.out.trans (HB4.out.mono (by omega)), by omega⟩)
  clear HR0 HB4 HA HA2 HA3 HB HB1 HB2 HB3 HK3 HW3 H1 hr hcnt0 hmm K1 K2
  go_frame
  go_loopw [10] (fun _ wr => ∃ cnt L kk M, Hid (Pst 64 w ba bb w2.heap.size r (x + 1) (y + 1) A B (fun _ => false) cnt L kk M wr)) (fun _ wr => wr.rangeLeft ba r)
  case atStart => exact ⟨_, _, _, _, HP⟩
  (
    case round =>
      rename World => wr
      obtain ⟨cnt, L, kk, M, HV⟩ := hrel
      go_wp2_with (first
        | (at_next; refine wpList_set_next rfl _ rfl rfl HV.out.rg ?_ ?_))
      · intro hc0 hL0
        have HL := Lib.hid hL0
        clear hc0 hL0
        ((
have HSA := Lib.hid HV.out.rg.set
have hcnt1 : y + 1 ≤ 100 := by omega
go_wp2_with (first
 | (at_range; refine wpList_set_range rfl _ rfl rfl HV.out.sq ?_; intro w4 cnt4 HR4 hcnt4 HB4))
obtain ⟨r4, hr4⟩ : ∃ r, wr.heap.size = r := ⟨_, rfl⟩
have hrlt := HV.out.rg.lt
rw [hr4]
rw [hr4] at HR4 HB4 hrlt
have HP2 := Lib.hid (show Pst 128 w bb ba w2.heap.size r4 (y + 1) (x + 1) B A (fun z => A z && !B z) cnt4 B kk M w4 from
 ⟨HR4.out, HSA.out.below (hr4 ▸ HB4.out), HV.out.sk.below (hr4 ▸ HB4.out), by have := HV.out.room; omega, fun z => by rw [HV.out.says, HL.out]; cases A z <;> cases B z <;> rfl, HV.out.below.trans (HB4.out.mono (by rw [← hr4]; exact HV.out.below.size)), by have := HV.out.ne; omega⟩)
clear HR4 HB4 hr4 hcnt4 HSA HV
go_frame
go_loopw [11] (fun _ wr => ∃ cnt L kk M, Hid (Pst 128 w bb ba w2.heap.size r4 (y + 1) (x + 1) B A (fun z => A z && !B z) cnt L kk M wr)) (fun _ wr => wr.rangeLeft bb r4)
case atStart => exact ⟨_, _, _, _, HP2⟩
clear HP HP2 HL
(
  case round =>
    rename World => wr
    obtain ⟨cnt, L, kk, M, HV⟩ := hrel
    go_wp2_with (first
      | (at_next; refine wpList_set_next rfl _ rfl rfl HV.out.rg ?_ ?_))
    · intro hc0 hL0
      have HL := Lib.hid hL0
      clear hc0 hL0
      ((
have HE := Lib.hid (show SetAt wr w2.heap.size 200 (pathS l x y) by
have e : M = pathS l x y := funext fun z => by rw [HPS.out, HV.out.says, HL.out]; cases A z <;> cases B z <;> rfl
rw [← e]
exact HV.out.sk.mono (by have := HV.out.room; omega))
go_wp2_with fail
go_ret
exact ⟨_, rfl, by omega, HE.out, HV.out.below⟩))
    · intro z wn cnt2 hwz hLz HRn hlt HOn hen
      have HLz := Lib.hid hLz
      have HWz := Lib.hid hwz
      have hk9 : kk < 1000000 := by (have := HV.out.room); omega
      clear hLz hwz
      cases hbz : (A) z with
      | true =>
        have HBz := Lib.hid hbz
        clear hbz
        go_wp2_with (first
          | (at_lookup; refine wpList_set_look rfl _ _ rfl rfl (HV.out.other HOn.out) rfl HWz.out HBz.out ?_))
        have HV2 := Lib.hid (HV.out.skip HRn.out hlt HOn.out HBz.out)
        go_roundw
        case rel => exact ⟨_, _, _, _, HV2⟩
        case measure => rw [HV2.out.rg.left, HV.out.rg.left]; exact hlt
      | false =>
        have HBz := Lib.hid hbz
        clear hbz
        go_wp2_with (first
          | (at_lookup; refine wpList_set_look rfl _ _ rfl rfl (HV.out.other HOn.out) rfl HWz.out HBz.out ?_)
          | (at_mapUpdate; refine wpList_set_store rfl _ _ _ rfl rfl (HV.out.fill HOn.out) hk9 rfl HWz.out rfl ?_; intro wm HSm HOm; have HV2 := Lib.hid (HV.out.take HRn.out hlt HOn.out HLz.out HBz.out HSm.out HOm.out); go_frame))
        go_roundw
        case rel => exact ⟨_, _, _, _, HV2⟩
        case measure => rw [HV2.out.rg.left, HV.out.rg.left]; exact hlt)))
      · intro z wn cnt2 hwz hLz HRn hlt HOn hen
        have HLz := Lib.hid hLz
        have HWz := Lib.hid hwz
        have hk9 : kk < 1000000 := by (have := HV.out.room); omega
        clear hLz hwz
        cases hbz : (B) z with
        | true =>
          have HBz := Lib.hid hbz
          clear hbz
          go_wp2_with (first
            | (at_lookup; refine wpList_set_look rfl _ _ rfl rfl (HV.out.other HOn.out) rfl HWz.out HBz.out ?_))
          have HV2 := Lib.hid (HV.out.skip HRn.out hlt HOn.out HBz.out)
          go_roundw
          case rel => exact ⟨_, _, _, _, HV2⟩
          case measure => rw [HV2.out.rg.left, HV.out.rg.left]; exact hlt
        | false =>
          have HBz := Lib.hid hbz
          clear hbz
          go_wp2_with (first
            | (at_lookup; refine wpList_set_look rfl _ _ rfl rfl (HV.out.other HOn.out) rfl HWz.out HBz.out ?_)
            | (at_mapUpdate; refine wpList_set_store rfl _ _ _ rfl rfl (HV.out.fill HOn.out) hk9 rfl HWz.out rfl ?_; intro wm HSm HOm; have HV2 := Lib.hid (HV.out.take HRn.out hlt HOn.out HLz.out HBz.out HSm.out HOm.out); go_frame))
          go_roundw
          case rel => exact ⟨_, _, _, _, HV2⟩
          case measure => rw [HV2.out.rg.left, HV.out.rg.left]; exact hlt)
end Go.Proofs.Ytkjamafpohnflaa
