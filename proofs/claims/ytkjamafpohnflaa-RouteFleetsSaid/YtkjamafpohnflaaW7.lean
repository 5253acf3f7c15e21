/- The walks of maps.Copy and Union. -/
import Derived.Test.YtkjamafpohnflaaW6
set_option linter.unusedVariables false
set_option linter.unusedSimpArgs false
set_option linter.unnecessarySimpa false
namespace Go.Proofs.Ytkjamafpohnflaa
open Go Go.RowKit Go.Mem Go.Deep

structure Cst (w : World) (bd bs r n m : Nat) (S A : Int → Bool) (cnt : Nat) (L : Int → Bool) (kk : Nat) (M : Int → Bool) (wr : World) : Prop where
  rg : RgAt wr bs r m A L cnt
  sk : SetAt wr bd kk M
  room : kk + cnt ≤ n + m
  says : ∀ z, M z = (S z || (A z && !L z))
  only : Only [bd] w wr
  ne : bd ≠ bs ∧ r ≠ bd ∧ r ≠ bs ∧ w.heap.size ≤ r
namespace Cst
variable {w wr w' w'' : World} {bd bs r n m cnt cnt' kk : Nat} {S A L M : Int → Bool} {x : Int}
theorem fill (h : Cst w bd bs r n m S A cnt L kk M wr) (ho : Only [r] wr w') : SetAt w' bd kk M := h.sk.only ho (by simpa using h.ne.2.1.symm)
theorem take (h : Cst w bd bs r n m S A cnt L kk M wr) (hr : RgAt w' bs r m A (fun z => L z && !(z == x)) cnt') (hc : cnt' < cnt) (ho : Only [r] wr w') (hx : L x = true) (hs : SetAt w'' bd (kk + 1) (put1 M x)) (ho2 : Only [bd] w' w'') :
    Cst w bd bs r n m S A cnt' (fun z => L z && !(z == x)) (kk + 1) (put1 M x) w'' := by
  obtain ⟨n1, n2, n3, n4⟩ := h.ne
  have hA := h.rg.sub hx
  refine ⟨hr.only ho2 (by simpa using n1.symm) (by simpa using n2), hs, by have := h.room; omega, fun z => ?_, (h.only.after ho (fun s hs => .inr (by rw [List.mem_singleton.1 hs]; exact n4))).trans ho2, h.ne⟩
  unfold put1
  rw [h.says]
  by_cases e : z = x
  · subst e; simp [hA]
  · have : (z == x) = false := by simpa using e
    rw [this]; simp
end Cst

def CopyIs (w : World) (bd k : Nat) (S : Int → Bool) (e : Ending) (w' : World) : Prop := e = .returned (.tuple #[]) ∧ SetAt w' bd k S ∧ Only [bd] w w'

set_option maxHeartbeats 2000000 in
theorem copy_any (bd bs n m : Nat) (S A : Int → Bool) (w : World) (h : SetAt w bd n S) (h2 : SetAt w bs m A) (hne : bd ≠ bs) (hn : n + m ≤ 900000) : Calls Try.prog 35 #[.map (some bd), .map (some bs)] w (CopyIs w bd (n + m) (fun z => S z || A z)) := by
  have H := Lib.hid h
  have H2 := Lib.hid h2
  have hlt := h.lt
  have hlt2 := h2.lt
  clear h h2
  go_enter Try.func35, Try.ntmps35
  go_wp2_with (first
    | (at_range; refine wpList_set_range rfl _ rfl rfl H2.out ?_; intro w3 cnt0 HR0 hcnt0 HB4))
  obtain ⟨r, hr⟩ : ∃ r, w.heap.size = r := ⟨_, rfl⟩
  have HV0 := Lib.hid (show Cst w bd bs w.heap.size n m S A cnt0 A n S w3 from
    ⟨HR0.out, H.out.below HB4.out, by omega, fun z => by cases A z <;> simp, Only.of_below _ HB4.out, hne, by omega, by omega, by omega⟩)
  rw [hr] at HV0 ⊢
  clear HR0 HB4 H H2 hcnt0 hr
  go_frame
  go_loopw [4] (fun _ wr => ∃ cnt L kk M, Hid (Cst w bd bs r n m S A cnt L kk M wr)) (fun _ wr => wr.rangeLeft bs r)
  case atStart => exact ⟨_, _, _, _, HV0⟩
  case round =>
    rename World => wr
    obtain ⟨cnt, L, kk, M, HV⟩ := hrel
    clear HV0
    go_wp2_with (first
      | (at_next; refine wpList_set_next rfl _ rfl rfl HV.out.rg ?_ ?_))
    · intro hc0 hL0
      have HE := Lib.hid (show SetAt wr bd (n + m) (fun z => S z || A z) by
        have e : M = fun z => S z || A z := funext fun z => by rw [HV.out.says, hL0]; simp
        rw [← e]
        exact HV.out.sk.mono (by have := HV.out.room; omega))
      clear hc0 hL0
      go_wp2_with fail
      go_end0
      exact ⟨rfl, HE.out, HV.out.only⟩
    · intro z wn cnt2 hwz hLz HRn hlt HOn hen
      have HLz := Lib.hid hLz
      have HWz := Lib.hid hwz
      have hk9 : kk < 1000000 := by (have := HV.out.room); omega
      clear hLz hwz
      go_wp2_with (first
        | (at_mapUpdate; refine wpList_set_store rfl _ _ _ rfl rfl (HV.out.fill HOn.out) hk9 rfl HWz.out rfl ?_; intro wm HSm HOm; have HV2 := Lib.hid (HV.out.take HRn.out hlt HOn.out HLz.out HSm.out HOm.out); go_frame))
      go_roundw
      case rel => exact ⟨_, _, _, _, HV2⟩
      case measure => rw [HV2.out.rg.left, HV.out.rg.left]; exact hlt

/-- the links of the paths of the first k nodes to one -/
def unS (T : List Int) (t : Nat) (ns : List Int) (k : Nat) (z : Int) : Bool := (List.range k).any fun i => pathS T (ns.getD i 0).toNat t z
theorem unS_zero (T : List Int) (t : Nat) (ns : List Int) : unS T t ns 0 = fun _ => false := by funext z; rfl
theorem unS_succ (T : List Int) (t : Nat) (ns : List Int) (k : Nat) : unS T t ns (k + 1) = fun z => unS T t ns k z || pathS T (ns.getD k 0).toNat t z := by
  funext z
  unfold unS
  rw [List.range_succ, List.any_append]
  simp
def unionL (T : List Int) (t : Nat) (ns : List Int) : List Int := ((List.range T.length).filter fun j : Nat => unS T t ns ns.length j).map fun k : Nat => (k : Int)

theorem ints_src {w : World} {v : Value} {l : List Int} (h : IntsAt w v l) : Src w v 1 l.length (ints l) := by
  obtain ⟨a, cap, rfl, h1, h2, h3, h4⟩ := h
  refine ⟨by rw [len_ints, Nat.mul_one], fun u hu => by simp [ints] at hu; obtain ⟨x, _, rfl⟩ := hu; rfl, a, cap, by rw [len_ints], ?_⟩
  rcases h4 with h4 | ⟨b, off, rfl, hb, hc⟩
  · left
    have := congrArg List.length h4
    rw [len_ints] at this
    exact this
  · right
    refine ⟨b, off, rfl, hb, fun j u hu => ?_⟩
    have hj := (List.getElem?_eq_some_iff.1 hu).1
    rw [hc j hj]
    exact hu

def UnionIs (w : World) (L : List Int) (n : Nat) (e : Ending) (w' : World) : Prop := ∃ a cap, e = .returned (.tuple #[.slice a n cap, .int .i64 0]) ∧ IntsAt w' (.slice a n cap) L ∧ Below w.heap.size w w'

set_option maxRecDepth 20000 in
set_option maxHeartbeats 8000000 in
theorem union_ok (v u : Value) (T ns : List Int) (t n q : Nat) (w : World) (h : IntsAt w v T) (h2 : IntsAt w u ns) (ho : Tree.Ok T) (hTL : T.length = n) (ht : t < n) (hns : ∀ p ∈ ns, 0 ≤ p ∧ p < n) (hm : ns.length ≤ 1000) (hq : (unionL T t ns).length = q) : Calls Try.prog 25 #[v, .int .i64 t, u] w (UnionIs w (unionL T t ns) q) := by
  obtain ⟨a, cap, rfl, hlen⟩ := h.open
  obtain ⟨a2, cap2, rfl, hlen2⟩ := h2.open
  have HO := Lib.hid ho
  have HTL := Lib.hid hTL
  have HP := Lib.hid hns
  have HC := Lib.hid (show checkF T ((t : Int) :: ns) = 0 from checkF_ok ((Tree.okB_iff T).2 ho) (by intro z hz; rcases List.mem_cons.1 hz with rfl | hz; (constructor <;> omega); (have := hns z hz; omega)))
  obtain ⟨m, hm'⟩ : ∃ m, ns.length = m := ⟨_, rfl⟩
  have HM := Lib.hid hm'
  have HQ := Lib.hid hq
  have hn64 : n ≤ 64 := by have := ho.2.1; omega
  have HSRC := Lib.hid (ints_src h2)
  rw [hm'] at hm h2 HSRC ⊢
  rw [hTL] at hlen h ⊢
  have H := Lib.hid h
  have H2 := Lib.hid h2
  have HA0 := Lib.hid (show AS w 3 1 (.slice (some ⟨w.heap.size, 0, none⟩) 1 1) 1 [.int .i64 (t : Int)] [] (w.alloc (.cells #[.int .i64 (t : Int)] 3)) from Own.new w w (Below.refl _ _) [(t : Int)] (by simp))
  have HS0 := Lib.hid (show Src (w.alloc (.cells #[.int .i64 (t : Int)] 3)) (.slice a2 m cap2) 1 m (ints ns) from HSRC.out.below (below_alloc _ _))
  have K0 := fun w (u : Value) (h : IntsAt w (.slice a n cap) T) (h2 : IntsAt w u ((t : Int) :: ns)) => Lib.hid (show Calls Try.prog 29 #[.slice a n cap, u] w (fun e w' => e = .returned (.int .i64 0) ∧ w = w') from HC.out ▸ chk_any _ u T ((t : Int) :: ns) w h h2)
  have hmm := @run_makeMap Try.prog
  clear h h2 ho hTL hns hm' hq hlen2
  go_enter Try.func25, Try.ntmps25
  go_wp2_with (first
    | (at_builtin; refine wpList_app elt22 _ _ rfl rfl rfl rfl HA0.out HS0.out (by omega) ?_; intro u w1 HA1; obtain ⟨p1, c1, rfl⟩ := owns_val HA1.out.row; have HI1 := Lib.hid (show IntsAt w1 (.slice p1 (1 + m) c1) ((t : Int) :: ns) by have e := HA1.out.row; exact ints_of_owns (l := (t : Int) :: ns) (by rw [List.length_cons, HM.out, Nat.add_comm m 1]; exact e) (by rw [List.length_cons, HM.out]; omega)); have HB1 := Lib.hid HA1.out.below; have HT1 := Lib.hid (H.out.below HB1.out (Nat.le_refl _)))
    | (go_at_call 29; (with_reducible refine (K0 _ _ HT1.out HI1.out).out.mono ?_); rintro e w0 ⟨rfl, rfl⟩))
  have HBc0 := Lib.hid HB1.out
  obtain ⟨bm, hbm⟩ : ∃ x, w1.heap.size = x := ⟨_, rfl⟩
  have HS0' := Lib.hid (show SetAt (w1.alloc (.map #[] 0)) bm (200 * 0) (unS T t ns 0) by rw [unS_zero, ← hbm]; exact SetAt.made w1)
  have HBm := Lib.hid (show Below bm w1 (w1.alloc (.map #[] 0)) from hbm ▸ below_alloc w1 _)
  have HLE := Lib.hid (Nat.le_of_eq hbm)
  have HLE2 := Lib.hid (show w.heap.size ≤ bm by rw [← hbm]; exact HB1.out.size)
  rw [hbm]
  generalize w1.alloc (.map #[] 0) = w3 at *
  clear hbm hmm HA0 HS0 HI1 HT1 HSRC K0 HC HA1
  go_loopw [24] (fun s wr => ∃ k : Nat, k ≤ m ∧ s = .int .i64 k ∧ Hid (SetAt wr bm (200 * k) (unS T t ns k)) ∧ Hid (Below bm w1 wr)) (fun s _ => m - (intOf s).toNat)
  case atStart => exact ⟨0, by omega, rfl, HS0', HBm⟩
  case round =>
    rename World => wr
    obtain ⟨k, hk, rfl, HS, HB⟩ := hrel
    clear HS0' HBm
    have HBW := Lib.hid (HB1.out.trans (HB.out.mono HLE2.out))
    by_cases hkm : k < m
    · obtain ⟨b, off, rfl, hb, ck⟩ := (H2.out.below HBW.out (Nat.le_refl _)).cell (i := k) (by rw [HM.out]; exact hkm)
      have hv := HP.out _ (getD_mem (l := ns) (k := k) (by rw [HM.out]; exact hkm))
      obtain ⟨z, hz⟩ : ∃ z, ns.getD k 0 = z := ⟨_, rfl⟩
      rw [hz] at ck hv
      obtain ⟨x, rfl⟩ : ∃ X : Nat, z = X := ⟨z.toNat, by omega⟩
      have K32 := fun w (h : IntsAt w (.slice a n cap) T) => Lib.hid (path_any _ T x t w h HO.out (by rw [HTL.out]; omega) (by rw [HTL.out]; omega))
      have HT2 := Lib.hid (H.out.below HBW.out (Nat.le_refl _))
      have HUS := Lib.hid (show unS T t ns (k + 1) = fun z => unS T t ns k z || pathS T x t z by rw [unS_succ, hz]; rfl)
      have hsl := HS.out.lt
      have hws := HB.out.size
      clear hz hv
      go_wp2_with (first
        | (go_at_call 32; (with_reducible refine (K32 _ HT2.out).out.mono ?_); rintro e w5 ⟨bk, rfl, hbk, hsk, hb5⟩; have HSK := Lib.hid hsk; have HS5 := Lib.hid (HS.out.below hb5); have HB5 := Lib.hid (HB.out.trans (hb5.mono (by omega))); have hz5 := hb5.size; clear hsk)
        | (go_at_call 35; (with_reducible refine (copy_any bm bk (200 * k) 200 _ _ _ HS5.out HSK.out (by omega) (by omega)).mono ?_); rintro e w6 ⟨rfl, hs6, ho6⟩; have HS6 := Lib.hid (show SetAt w6 bm (200 * (k + 1)) (unS T t ns (k + 1)) by rw [HUS.out]; exact hs6.mono (by omega)); have HB6 := Lib.hid (HB5.out.trans (ho6.below (fun s hs => by rw [List.mem_singleton.1 hs]; exact Nat.le_refl _) (by omega))); clear hs6 ho6))
      go_roundw
      case rel => exact ⟨k + 1, by omega, by go_num, HS6, HB6⟩
      case measure => simp [intOf]; omega
    · obtain rfl : k = m := by omega
      have HU := Lib.hid (show ∀ x, unS T t ns k x = true ↔ ∃ j : Nat, x = j ∧ j < T.length ∧ unS T t ns k j = true from fun x => by
        constructor
        · intro h
          have h' := h
          unfold unS at h
          rw [List.any_eq_true] at h
          obtain ⟨i, hi, hp⟩ := h
          rw [List.mem_range] at hi
          have hv := HP.out _ (getD_mem (l := ns) (k := i) (by rw [HM.out]; exact hi))
          obtain ⟨j, rfl, hj, _⟩ := (pathS_iff T HO.out (by rw [HTL.out]; omega) (by rw [HTL.out]; omega) x).1 hp
          exact ⟨j, rfl, hj, h'⟩
        · rintro ⟨j, rfl, _, h⟩
          exact h)
      have K2 := fun (w : World) (h : SetAt w bm (200 * k) (unS T t ns k)) => Lib.hid (show Calls Try.prog 30 #[.func (.func 38) #[] #[.pointer (some ⟨w.heap.size, 0, none⟩)]] (w.alloc (.cells #[.map (some bm)] 60)) (SortedIs (w.alloc (.cells #[.map (some bm)] 60)) (unionL T t ns)) from by
        have := sorted_as h (by omega) _ _ HU.out
        unfold unionL
        rw [HM.out]
        exact this)
      go_wp2_with (first
        | (go_at_call 31; (with_reducible refine (keys_as _ _).mono ?_); rintro e w2 ⟨rfl, rfl⟩)
        | (go_at_call 30; (with_reducible refine (K2 _ HS.out).out.mono ?_); rintro e w9 ⟨vr, rfl, hI, hb9⟩; obtain ⟨ra, rcap, rfl, hrl⟩ := hI.open; rw [HQ.out] at hI ⊢; have HI := Lib.hid hI; have HB9 := Lib.hid ((HBW.out.alloc HBW.out.size (.cells #[.map (some bm)] 60)).trans (hb9.mono (by have := HBW.out.size; simp; omega))); clear hI hb9))
      go_ret2
      exact ⟨ra, rcap, rfl, HI.out, HB9.out⟩

theorem union_bad (v u : Value) (T ns : List Int) (t c : Int) (w : World) (h : IntsAt w v T) (h2 : IntsAt w u ns) (hm : ns.length ≤ 1000) (hc : checkF T (t :: ns) = c) (h0 : c ≠ 0) : Calls Try.prog 25 #[v, .int .i64 t, u] w fun e w' => e = .returned (.tuple #[.slice none 0 0, .int .i64 c]) ∧ Below w.heap.size w w' := by
  obtain ⟨a, cap, rfl, hlen⟩ := h.open
  obtain ⟨a2, cap2, rfl, hlen2⟩ := h2.open
  have h0' : (c != 0) = true := by simpa using h0
  obtain ⟨m, hm'⟩ : ∃ m, ns.length = m := ⟨_, rfl⟩
  have HM := Lib.hid hm'
  have HSRC := Lib.hid (ints_src h2)
  rw [hm'] at hm h2 HSRC ⊢
  have K0 := fun w (u : Value) (h : IntsAt w (.slice a T.length cap) T) (h2 : IntsAt w u (t :: ns)) => Lib.hid (show Calls Try.prog 29 #[.slice a T.length cap, u] w (fun e w' => e = .returned (.int .i64 c) ∧ w = w') from hc ▸ chk_any _ u T (t :: ns) w h h2)
  have H := Lib.hid h
  have HA0 := Lib.hid (show AS w 3 1 (.slice (some ⟨w.heap.size, 0, none⟩) 1 1) 1 [.int .i64 t] [] (w.alloc (.cells #[.int .i64 t] 3)) from Own.new w w (Below.refl _ _) [t] (by simp))
  have HS0 := Lib.hid (show Src (w.alloc (.cells #[.int .i64 t] 3)) (.slice a2 m cap2) 1 m (ints ns) from HSRC.out.below (below_alloc _ _))
  clear h h2 hc h0 hlen2 hm'
  generalize T.length = n at *
  go_enter Try.func25, Try.ntmps25
  go_wp2_with (first
    | (at_builtin; refine wpList_app elt22 _ _ rfl rfl rfl rfl HA0.out HS0.out (by omega) ?_; intro u w1 HA1; obtain ⟨p1, c1, rfl⟩ := owns_val HA1.out.row; have HI1 := Lib.hid (show IntsAt w1 (.slice p1 (1 + m) c1) (t :: ns) by have e := HA1.out.row; exact ints_of_owns (l := t :: ns) (by rw [List.length_cons, HM.out, Nat.add_comm m 1]; exact e) (by rw [List.length_cons, HM.out]; omega)); have HB1 := Lib.hid HA1.out.below; have HT1 := Lib.hid (H.out.below HB1.out (Nat.le_refl _)))
    | (go_at_call 29; (with_reducible refine (K0 _ _ HT1.out HI1.out).out.mono ?_); rintro e w0 ⟨rfl, rfl⟩))
  go_ret2
  exact ⟨rfl, HB1.out⟩
end Go.Proofs.Ytkjamafpohnflaa
