/- Walks of Meet and Path, over the sorted keys of a set. -/
import Derived.Test.YtkjamafpohnflaaW3
import Derived.Test.YtkjamafpohnflaaSh
set_option linter.unusedVariables false
set_option linter.unusedSimpArgs false
set_option linter.unnecessarySimpa false
namespace Go.Proofs.Ytkjamafpohnflaa
open Go Go.RowKit Go.Mem Go.Maps Go.Sort

theorem sortsA (m : Nat) : AnyZI.SortsIn Try.prog sortedA_ren Fence.wide m :=
  ⟨fun blk off cap ss W hH hblk hsz => callsIn_wide.2 (AnyM.slices_Sort_int sortA blk off cap ss W hH hblk hsz),
   fun p cap W => callsIn_wide.2 (AnyM.slices_Sort_int_none sortA p cap W)⟩
theorem keys_as (mb : Option Nat) (w : World) : Calls Try.prog 31 #[.map mb] w fun e w' => e = .returned (.func (.func 38) #[] #[.pointer (some ⟨w.heap.size, 0, none⟩)]) ∧ w' = w.alloc (.cells #[.map mb] 60) :=
  (callsIn_wide (n := 5)).1 (AnyZI.keys_in keysA Fence.wide 5 trivial rfl mb w)

theorem keys_set {w : World} {b n : Nat} {D : DataW Unit} {S : Int → Bool} (h : w.ownsMap Try.prog 3 pe b n D) (h2 : Says D S) : (intKeys D).Nodup ∧ ∀ x, x ∈ intKeys D ↔ S x = true := by
  obtain ⟨es, hD, hpw, _⟩ := h.entries key3
  obtain ⟨es', hD', hko⟩ := h.keysOf
  obtain rfl : es = es' := by rw [hD] at hD'; simpa using hD'
  have hk : ∀ p ∈ es, ∃ x, p.1 = .int .i64 x := fun p hp => by obtain ⟨v, hv⟩ := hko p hp; obtain ⟨x, _, hx, _⟩ := Maps.keyOf_i64 Try.underlying3 hv; exact ⟨x, hx⟩
  subst hD
  constructor
  · show (es.map fun p => Go.intOf p.1).Nodup
    refine List.pairwise_map.2 (hpw.imp_of_mem fun {p q} hp' hq' hne e => hne ?_)
    obtain ⟨a, ha⟩ := hk p hp'
    obtain ⟨b, hb⟩ := hk q hq'
    rw [ha, hb] at e ⊢
    exact congrArg _ e
  · intro x
    rw [← h2.has, has_eq, List.any_eq_true]
    show x ∈ es.map (fun p => Go.intOf p.1) ↔ _
    rw [List.mem_map]
    constructor
    · rintro ⟨p, hp', rfl⟩
      obtain ⟨a, ha⟩ := hk p hp'
      exact ⟨p, hp', by rw [ha]; simp [Lit.sameKey, Go.intOf]⟩
    · rintro ⟨p, hp', hs⟩
      obtain ⟨a, ha⟩ := hk p hp'
      rw [ha] at hs
      exact ⟨p, hp', by rw [ha]; simpa [Lit.sameKey, Go.intOf] using hs⟩

theorem ints_of_owns {w : World} {B : Nat} {v : Value} {l : List Int} (h : w.ownsRow B 3 1 v l.length (ints l)) (hl : l.length ≤ 140737488351232) : IntsAt w v l := by
  rcases h.2 with ⟨rfl, hz⟩ | ⟨g, cap, cur, rfl, hB, hg, h1, h2, h3, h4⟩
  · have : l = [] := List.eq_nil_of_length_eq_zero hz
    subst this
    exact IntsAt.nil w
  · refine ⟨some ⟨g, 0, none⟩, cap, by rw [len_ints], by rw [len_ints]; exact h1, h2, by rw [len_ints]; exact hl, .inr ⟨g, 0, rfl, (Array.getElem?_eq_some_iff.1 hg).1, fun i hi => ?_⟩⟩
    rw [len_ints] at hi
    have h5 : (ints l)[i]? = cur.toList[i]? := by rw [← h4, List.getElem?_take, if_pos (by omega)]
    simp only [World.cell?, hg, Nat.zero_add]
    have h6 : cur.toList[i]? = cur[i]? := by simp
    show cur[i]? = _
    rw [← h6, ← h5]

/-- the elements of the set, in order -/
def SortedIs (w : World) (L : List Int) (e : Ending) (w' : World) : Prop := ∃ v, e = .returned v ∧ IntsAt w' v L ∧ Below w.heap.size w w'
theorem sorted_as {w : World} {b n : Nat} {S : Int → Bool} (h : SetAt w b n S) (hn : n ≤ 1000000) (N : Nat) (p : Nat → Bool) (hp : ∀ x, S x = true ↔ ∃ k : Nat, x = k ∧ k < N ∧ p k = true) :
    Calls Try.prog 30 #[.func (.func 38) #[] #[.pointer (some ⟨w.heap.size, 0, none⟩)]] (w.alloc (.cells #[.map (some b)] 60)) (SortedIs (w.alloc (.cells #[.map (some b)] 60)) (((List.range N).filter p).map fun k : Nat => (k : Int))) := by
  obtain ⟨D, h1, h2⟩ := h
  have hs := h1.size_le
  have hseq : SeqGives Fence.wide 2 Try.prog 38 #[.pointer (some ⟨w.heap.size, 0, none⟩)] encZ (fun ss => ss.Perm (intKeys D)) (Maps.size D) (w.alloc (.cells #[.map (some b)] 60)) :=
    AnyZI.keys_gives (ρ := keysA_ren) { keysA with } Fence.wide _ trivial rfl (by omega) w.heap.size b n D _ (by simp) (by simp) (by
      obtain ⟨es, clock, hb, Ft, hs, hD⟩ := h1
      exact ⟨es, clock, (Below.heap_alloc _ _ b (Array.getElem?_eq_some_iff.1 hb).1).trans hb, Ft, hs, hD⟩)
  have cS := AnyZI.sorted_in sortedA Fence.wide 5 trivial trivial trivial trivial rfl (by omega) (sortsA _) (enters_of Try.func37 (by kernel_rfl) rfl) 38 #[.pointer (some ⟨w.heap.size, 0, none⟩)] trivial (enters_of Try.func38 (by kernel_rfl) rfl) _ _ (by unfold maxLen; omega) (by omega) _ hseq
  change CallsIn _ _ Try.prog 30 _ _ _ at cS
  refine (callsIn_wide.1 cS).mono ?_
  rintro e w' ⟨v, ss, rfl, hS, hrow, hnil, hb⟩
  obtain ⟨k1, k2⟩ := keys_set h1 h2
  have he : (ss.mergeSort fun x y => decide (x ≤ y)) = ((List.range N).filter p).map fun k : Nat => (k : Int) :=
    Tree.merge_eq (hS.nodup_iff.2 k1) N p fun x => by rw [hS.mem_iff, k2, hp]
  have hlen : (((List.range N).filter p).map fun k : Nat => (k : Int)).length = ss.length := by rw [← he, List.length_mergeSort]
  have hlk : (intKeys D).length ≤ 1000000 := by
    obtain ⟨es, hD, _⟩ := h1.entries key3
    rw [hD] at hs ⊢
    show (es.map _).length ≤ _
    rw [List.length_map]
    rw [size_eq] at hs
    omega
  have hl2 := hS.length_eq
  refine ⟨v, rfl, ints_of_owns (B := (w.alloc (.cells #[.map (some b)] 60)).heap.size) ?_ (by omega), hb⟩
  rw [hlen, ← he]
  exact hrow

theorem IntsAt.new (w : World) (l : List Int) (hl : l.length ≤ 1000000) (t : TypeId) : IntsAt (w.alloc (.cells (ints l).toArray t)) (.slice (some ⟨w.heap.size, 0, none⟩) l.length l.length) l := by
  refine ⟨_, l.length, by rw [len_ints], by rw [len_ints]; omega, by unfold maxLen; omega, by rw [len_ints]; omega, .inr ⟨w.heap.size, 0, rfl, by simp, fun i hi => ?_⟩⟩
  rw [Nat.zero_add, World.cell?_alloc_new]
  simp

/-- m is the lowest node above both -/
structure IsMeet (l : List Int) (a b m : Nat) : Prop where
  inA : Tree.bel l a m = true
  inB : Tree.bel l b m = true
  top : ∀ i, Tree.bel l a i = true → Tree.bel l b i = true → i ≤ m
theorem IsMeet.uniq {l : List Int} {a b m m' : Nat} (h : IsMeet l a b m) (h' : IsMeet l a b m') : m = m' := by
  have := h.top m' h'.inA h'.inB
  have := h'.top m h.inA h.inB
  omega
theorem meet_ex {l : List Int} (ho : Tree.Ok l) {a b : Nat} (ha : a < l.length) (hb : b < l.length) : ∃ m, IsMeet l a b m := by
  have key : ∀ n, ∃ m, Tree.bel l a m = true ∧ Tree.bel l b m = true ∧ ∀ i, i < n → Tree.bel l a i = true → Tree.bel l b i = true → i ≤ m := by
    intro n
    induction n with
    | zero => exact ⟨0, Tree.bel_zero ho a ha, Tree.bel_zero ho b hb, fun i hi => by omega⟩
    | succ n ih =>
      obtain ⟨m, h1, h2, h3⟩ := ih
      by_cases h : Tree.bel l a n = true ∧ Tree.bel l b n = true
      · exact ⟨n, h.1, h.2, fun i hi _ _ => by omega⟩
      · refine ⟨m, h1, h2, fun i hi q1 q2 => ?_⟩
        by_cases e : i = n
        · subst e; exact absurd ⟨q1, q2⟩ h
        · exact h3 i (by omega) q1 q2
  obtain ⟨m, h1, h2, h3⟩ := key (a + 1)
  exact ⟨m, h1, h2, fun i q1 q2 => h3 i (by have := Tree.bel_ge q1; omega) q1 q2⟩

/-- one round of Meet's loop -/
structure Mst (w : World) (p q r n m : Nat) (A B : Int → Bool) (t : Int) (cnt : Nat) (L : Int → Bool) (best : Int) (wr : World) : Prop where
  rg : RgAt wr p r n A L cnt
  sq : SetAt wr q m B
  low : 0 ≤ best ∧ best ≤ t
  hit : L t = true ∨ best = t
  below : Below w.heap.size w wr
  ne : r ≠ p ∧ r ≠ q ∧ w.heap.size ≤ r
  top : ∀ z, A z = true → B z = true → z ≤ t
  inB : B t = true
namespace Mst
variable {w wr w' : World} {p q r n m cnt cnt' : Nat} {A B L : Int → Bool} {t best x : Int}
theorem other (h : Mst w p q r n m A B t cnt L best wr) (ho : Only [r] wr w') : SetAt w' q m B := h.sq.only ho (by simpa using h.ne.2.1.symm)
theorem go (h : Mst w p q r n m A B t cnt L best wr) (hr : RgAt w' p r n A (fun z => L z && !(z == x)) cnt') (ho : Only [r] wr w') (b' : Int) (hb : 0 ≤ b' ∧ b' ≤ t) (hh : x ≠ t → best = t → b' = t) (hx : x = t → b' = t) : Mst w p q r n m A B t cnt' (fun z => L z && !(z == x)) b' w' := by
  refine ⟨hr, h.other ho, hb, ?_, h.below.trans (ho.below (fun s hs => by rw [List.mem_singleton.1 hs]; exact h.ne.2.2) h.below.size), h.ne, h.top, h.inB⟩
  by_cases e : x = t
  · exact .inr (hx e)
  · rcases h.hit with h1 | h1
    · refine .inl ?_
      have : (t == x) = false := by simp; exact fun q => e q.symm
      rw [h1, this]; rfl
    · exact .inr (hh e h1)
end Mst

set_option maxHeartbeats 2000000 in
theorem meet_ok (v : Value) (l : List Int) (x y m : Nat) (w : World) (h : IntsAt w v l) (ho : Tree.Ok l) (hx : x < l.length) (hy : y < l.length) (hm : IsMeet l x y m) : Calls Try.prog 15 #[v, .int .i64 x, .int .i64 y] w fun e w' => e = .returned (.tuple #[.int .i64 m, .int .i64 0]) ∧ Below w.heap.size w w' := by
  obtain ⟨a, cap, rfl, hlen⟩ := h.open
  have H := Lib.hid h
  have HO := Lib.hid ho
  have hn64 : l.length ≤ 64 := ho.2.1
  have HC := Lib.hid (show checkF l [(x : Int), (y : Int)] = 0 from checkF_ok ((Tree.okB_iff l).2 ho) (by intro z hz; simp at hz; rcases hz with rfl | rfl <;> omega))
  have HX := Lib.hid hx
  have HY := Lib.hid hy
  have hm64 : m < 64 := by have := Tree.bel_ge hm.inA; omega
  have hx64 : x < 64 := by omega
  have hy64 : y < 64 := by omega
  generalize hA : belZ l x = A
  generalize hB : belZ l y = B
  have HT := Lib.hid (show (∀ z, B z = true → A z = true → z ≤ (m : Int)) ∧ A m = true ∧ B m = true from by
    rw [← hA, ← hB]
    refine ⟨fun z h1 h2 => ?_, by rw [belZ_nat]; exact hm.inA, by rw [belZ_nat]; exact hm.inB⟩
    obtain ⟨k, rfl⟩ : ∃ k : Nat, z = k := ⟨z.toNat, by have := (belZ_bound h1).1; omega⟩
    rw [belZ_nat] at h1 h2
    have := hm.top k h2 h1
    omega)
  have K0 := fun w (u : Value) (h : IntsAt w (.slice a l.length cap) l) (h2 : IntsAt w u [(x : Int), (y : Int)]) => Lib.hid (HC.out ▸ chk_any _ u l [(x : Int), (y : Int)] w h h2)
  have K1 := fun w (h : IntsAt w (.slice a l.length cap) l) => Lib.hid (above_any _ l x w h HO.out HX.out)
  have K2 := fun w (h : IntsAt w (.slice a l.length cap) l) => Lib.hid (above_any _ l y w h HO.out HY.out)
  have HAA := Lib.hid hA
  have HBB := Lib.hid hB
  have H0 := Lib.hid (H.out.keep (below_alloc _ (.cells #[.int .i64 (x : Int), .int .i64 (y : Int)] 3)))
  have HN0 := Lib.hid (show IntsAt (w.alloc (.cells #[.int .i64 (x : Int), .int .i64 (y : Int)] 3)) (.slice (some ⟨w.heap.size, 0, none⟩) 2 2) [(x : Int), (y : Int)] from IntsAt.new w [(x : Int), (y : Int)] (by simp) 3)
  clear h ho hx hy hm hA hB
  generalize l.length = n at *
  go_enter Try.func15, Try.ntmps15
  go_wp2_with (first
    | (go_at_call 29; (with_reducible refine (K0 _ _ H0.out HN0.out).out.mono ?_); rintro e w0 ⟨rfl, rfl⟩)
    | (go_at_call 33; (with_reducible refine (K1 _ H0.out).out.mono ?_); rintro e w1 ⟨ba, rfl, hba, hsa, hb1⟩; have HA := Lib.hid (HAA.out ▸ hsa); have hba2 := hsa.lt; have HB1 := Lib.hid ((below_alloc w (.cells #[.int .i64 (x : Int), .int .i64 (y : Int)] 3)).trans (hb1.mono (by simp))); have H1 := Lib.hid (H0.out.keep hb1); clear hsa hb1)
    | (go_at_call 33; (with_reducible refine (K2 _ H1.out).out.mono ?_); rintro e w2 ⟨bb, rfl, hbb, hsb, hb2⟩; have HB := Lib.hid (HBB.out ▸ hsb); have hbb2 := hsb.lt; have HA2 := Lib.hid (HA.out.below hb2); have HB2 := Lib.hid (HB1.out.trans (hb2.mono HB1.out.size)); have hz1 := HB1.out.size; have hz2 := hb2.size; clear hsb hb2)
    | (at_range; refine wpList_set_range rfl _ rfl rfl HB.out ?_; intro w3 cnt0 HR0 hcnt0 HB4))
  obtain ⟨r, hr⟩ : ∃ r, w2.heap.size = r := ⟨_, rfl⟩
  rw [hr]
  rw [hr] at HR0 HB4 hbb2 hz2
  have HP := Lib.hid (show Mst w bb ba r (y + 1) (x + 1) B A m cnt0 B 0 w3 from
    ⟨HR0.out, HA2.out.below (hr ▸ HB4.out), by omega, .inl HT.out.2.2, HB2.out.trans (HB4.out.mono (by rw [← hr]; exact HB2.out.size)), by have := HB1.out.size; omega, HT.out.1, HT.out.2.1⟩)
  clear HR0 HB4 HA HA2 HB HB1 HB2 H1 hr hcnt0 K0 K1 K2 H0 HN0
  go_frame
  go_loopw [10] (fun s wr => ∃ cnt L best, s = .int .i64 best ∧ Hid (Mst w bb ba r (y + 1) (x + 1) B A m cnt L best wr)) (fun _ wr => wr.rangeLeft bb r)
  case atStart => exact ⟨_, _, _, rfl, HP⟩
  case round =>
    rename World => wr
    obtain ⟨cnt, L, best, rfl, HV⟩ := hrel
    go_wp2_with (first
      | (at_next; refine wpList_set_next rfl _ rfl rfl HV.out.rg ?_ ?_))
    · intro hc0 hL0
      obtain rfl : best = (m : Int) := by have := HV.out.hit; rw [hL0] at this; simpa using this
      clear hc0 hL0
      go_wp2_with fail
      go_ret2
      exact ⟨rfl, HV.out.below⟩
    · intro z wn cnt2 hwz hLz HRn hlt HOn hen
      have HLz := Lib.hid hLz
      have HWz := Lib.hid hwz
      have hbl := HV.out.low
      have hBz := HV.out.rg.sub hLz
      have hz0 : 0 ≤ z := (belZ_bound (l := l) (a := y) (by rw [HBB.out]; exact hBz)).1
      cases haz : A z with
      | true =>
        have hzm : z ≤ m := HT.out.1 z hBz haz
        have HAz := Lib.hid haz
        clear haz hLz hwz hBz
        have HV2 := Lib.hid (HV.out.go HRn.out HOn.out (max best z) (by omega) (fun _ h => by omega) (fun h => by omega))
        go_wp2_with (first
          | (at_lookup; refine wpList_set_look rfl _ _ rfl rfl (HV.out.other HOn.out) rfl HWz.out HAz.out ?_))
        go_roundw
        case rel => exact ⟨_, _, _, rfl, HV2⟩
        case measure => rw [HV2.out.rg.left, HV.out.rg.left]; exact hlt
      | false =>
        have HAz := Lib.hid haz
        have HV2 := Lib.hid (HV.out.go HRn.out HOn.out best (by omega) (fun _ h => h) (fun h => by rw [h, HT.out.2.1] at haz; cases haz))
        clear haz hLz hwz hBz
        go_wp2_with (first
          | (at_lookup; refine wpList_set_look rfl _ _ rfl rfl (HV.out.other HOn.out) rfl HWz.out HAz.out ?_; go_frame))
        go_roundw
        case rel => exact ⟨_, _, _, rfl, HV2⟩
        case measure => rw [HV2.out.rg.left, HV.out.rg.left]; exact hlt

set_option maxHeartbeats 1000000 in
theorem meet_bad (v : Value) (l : List Int) (x y c : Int) (w : World) (h : IntsAt w v l) (hc : checkF l [x, y] = c) (h0 : c ≠ 0) : Calls Try.prog 15 #[v, .int .i64 x, .int .i64 y] w fun e w' => e = .returned (.tuple #[.int .i64 0, .int .i64 c]) ∧ Below w.heap.size w w' := by
  obtain ⟨a, cap, rfl, hlen⟩ := h.open
  have h0' : (c != 0) = true := by simpa using h0
  have K0 := fun w (u : Value) (h : IntsAt w (.slice a l.length cap) l) (h2 : IntsAt w u [x, y]) => Lib.hid (hc ▸ chk_any _ u l [x, y] w h h2)
  have H0 := Lib.hid (h.keep (below_alloc _ (.cells #[.int .i64 x, .int .i64 y] 3)))
  have HN0 := Lib.hid (show IntsAt (w.alloc (.cells #[.int .i64 x, .int .i64 y] 3)) (.slice (some ⟨w.heap.size, 0, none⟩) 2 2) [x, y] from IntsAt.new w [x, y] (by simp) 3)
  clear h hc h0
  generalize l.length = n at *
  go_enter Try.func15, Try.ntmps15
  go_wp2_with (first
    | (go_at_call 29; (with_reducible refine (K0 _ _ H0.out HN0.out).out.mono ?_); rintro e w0 ⟨rfl, rfl⟩))
  go_ret2
  exact ⟨rfl, below_alloc _ _⟩

/-- the links, as numbers -/
def pathI (l : List Int) (a b : Nat) : List Int := (Tree.pathL l a b).map fun k : Nat => (k : Int)
theorem pathS_iff (l : List Int) (ho : Tree.Ok l) {a b : Nat} (ha : a < l.length) (hb : b < l.length) (x : Int) : pathS l a b x = true ↔ ∃ k : Nat, x = k ∧ k < l.length ∧ (Tree.bel l a k != Tree.bel l b k) = true := by
  unfold pathS
  constructor
  · intro h
    have h0 : 0 ≤ x ∧ x < l.length := by
      cases h1 : belZ l a x with
      | true => have := belZ_bound h1; omega
      | false =>
        cases h2 : belZ l b x with
        | true => have := belZ_bound h2; omega
        | false => rw [h1, h2] at h; cases h
    refine ⟨x.toNat, by omega, by omega, ?_⟩
    have : x = (x.toNat : Int) := by omega
    rw [this, belZ_nat, belZ_nat] at h
    exact h
  · rintro ⟨k, rfl, _, h⟩
    rw [belZ_nat, belZ_nat]
    exact h
/-- what Path returns -/
def PathPost (w : World) (L : List Int) (e : Ending) (w' : World) : Prop := ∃ a cap, e = .returned (.tuple #[.slice a L.length cap, .int .i64 0]) ∧ IntsAt w' (.slice a L.length cap) L ∧ Below w.heap.size w w'

set_option maxHeartbeats 2000000 in
theorem Path_ok (v : Value) (l : List Int) (x y : Nat) (w : World) (h : IntsAt w v l) (ho : Tree.Ok l) (hx : x < l.length) (hy : y < l.length) : Calls Try.prog 11 #[v, .int .i64 x, .int .i64 y] w (PathPost w (pathI l x y)) := by
  obtain ⟨a, cap, rfl, hlen⟩ := h.open
  have H := Lib.hid h
  have hn64 : l.length ≤ 64 := ho.2.1
  have hx64 : x < 64 := by omega
  have hy64 : y < 64 := by omega
  have HC := Lib.hid (show checkF l [(x : Int), (y : Int)] = 0 from checkF_ok ((Tree.okB_iff l).2 ho) (by intro z hz; simp at hz; rcases hz with rfl | rfl <;> omega))
  have K0 := fun w (u : Value) (h : IntsAt w (.slice a l.length cap) l) (h2 : IntsAt w u [(x : Int), (y : Int)]) => Lib.hid (HC.out ▸ chk_any _ u l [(x : Int), (y : Int)] w h h2)
  have K1 := fun w (h : IntsAt w (.slice a l.length cap) l) => Lib.hid (path_any _ l x y w h ho hx hy)
  have K2 := fun (w : World) (b : Nat) (h : SetAt w b 200 (pathS l x y)) => Lib.hid (show Calls Try.prog 30 #[.func (.func 38) #[] #[.pointer (some ⟨w.heap.size, 0, none⟩)]] (w.alloc (.cells #[.map (some b)] 60)) (SortedIs (w.alloc (.cells #[.map (some b)] 60)) (pathI l x y)) from sorted_as h (by omega) _ _ (pathS_iff l ho hx hy))
  have H0 := Lib.hid (H.out.keep (below_alloc _ (.cells #[.int .i64 (x : Int), .int .i64 (y : Int)] 3)))
  have HN0 := Lib.hid (show IntsAt (w.alloc (.cells #[.int .i64 (x : Int), .int .i64 (y : Int)] 3)) (.slice (some ⟨w.heap.size, 0, none⟩) 2 2) [(x : Int), (y : Int)] from IntsAt.new w [(x : Int), (y : Int)] (by simp) 3)
  clear h ho hx hy
  generalize l.length = n at *
  generalize pathI l x y = L at *
  go_enter Try.func11, Try.ntmps11
  go_wp2_with (first
    | (go_at_call 29; (with_reducible refine (K0 _ _ H0.out HN0.out).out.mono ?_); rintro e w0 ⟨rfl, rfl⟩)
    | (go_at_call 32; (with_reducible refine (K1 _ H0.out).out.mono ?_); rintro e w1 ⟨bk, rfl, hbk, hsk, hb1⟩; have HS := Lib.hid hsk; have HB1 := Lib.hid ((below_alloc w (.cells #[.int .i64 (x : Int), .int .i64 (y : Int)] 3)).trans (hb1.mono (by simp))); clear hsk hb1)
    | (go_at_call 31; (with_reducible refine (keys_as _ _).mono ?_); rintro e w2 ⟨rfl, rfl⟩)
    | (go_at_call 30; (with_reducible refine (K2 _ _ HS.out).out.mono ?_); rintro e w3 ⟨vr, rfl, hI, hb3⟩; obtain ⟨ra, rcap, rfl, hrl⟩ := hI.open; have HI := Lib.hid hI; have HB3 := Lib.hid ((HB1.out.alloc HB1.out.size (.cells #[.map (some bk)] 60)).trans (hb3.mono (by have := HB1.out.size; simp; omega))); clear hI hb3))
  go_ret2
  exact ⟨ra, rcap, rfl, HI.out, HB3.out⟩

set_option maxHeartbeats 1000000 in
theorem Path_bad (v : Value) (l : List Int) (x y c : Int) (w : World) (h : IntsAt w v l) (hc : checkF l [x, y] = c) (h0 : c ≠ 0) : Calls Try.prog 11 #[v, .int .i64 x, .int .i64 y] w fun e w' => e = .returned (.tuple #[.slice none 0 0, .int .i64 c]) ∧ Below w.heap.size w w' := by
  obtain ⟨a, cap, rfl, hlen⟩ := h.open
  have h0' : (c != 0) = true := by simpa using h0
  have K0 := fun w (u : Value) (h : IntsAt w (.slice a l.length cap) l) (h2 : IntsAt w u [x, y]) => Lib.hid (hc ▸ chk_any _ u l [x, y] w h h2)
  have H0 := Lib.hid (h.keep (below_alloc _ (.cells #[.int .i64 x, .int .i64 y] 3)))
  have HN0 := Lib.hid (show IntsAt (w.alloc (.cells #[.int .i64 x, .int .i64 y] 3)) (.slice (some ⟨w.heap.size, 0, none⟩) 2 2) [x, y] from IntsAt.new w [x, y] (by simp) 3)
  clear h hc h0
  generalize l.length = n at *
  go_enter Try.func11, Try.ntmps11
  go_wp2_with (first
    | (go_at_call 29; (with_reducible refine (K0 _ _ H0.out HN0.out).out.mono ?_); rintro e w0 ⟨rfl, rfl⟩))
  go_ret2
  exact ⟨rfl, below_alloc _ _⟩
end Go.Proofs.Ytkjamafpohnflaa
