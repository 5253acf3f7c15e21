/- Plain law of MarginCodes: the cuts of n complete fragments on n drives. -/
import Derived.Test.YthljjllcdocfiaaG5
set_option linter.unusedVariables false
set_option linter.unusedSimpArgs false
set_option linter.unnecessarySimpa false
namespace Go.Proofs.Ythljjllcdocfiaa
open Go

def codeL (b : Int) (n : Nat) : List Cp := (List.range n).map fun f : Nat => ((f : Int), b + (f : Int), 15)
def drvC (b : Int) (n : Nat) : List Int := (List.range n).map fun f : Nat => b + (f : Int)
theorem code_succ (b : Int) (n : Nat) : codeL b (n + 1) = codeL b n ++ [((n : Int), b + (n : Int), 15)] := by
  unfold codeL
  rw [List.range_succ, List.map_append]
  rfl
theorem code_len (b : Int) (n : Nat) : (codeL b n).length = n := by simp [codeL]
theorem drvC_len (b : Int) (n : Nat) : (drvC b n).length = n := by simp [drvC]
theorem mem_code {b : Int} {n : Nat} {c : Cp} : c ∈ codeL b n ↔ ∃ f : Nat, f < n ∧ c = ((f : Int), b + (f : Int), 15) := by
  unfold codeL
  rw [List.mem_map]
  constructor
  · rintro ⟨f, hf, rfl⟩; exact ⟨f, List.mem_range.1 hf, rfl⟩
  · rintro ⟨f, hf, rfl⟩; exact ⟨f, List.mem_range.2 hf, rfl⟩
theorem mem_drvC {b x : Int} {n : Nat} : x ∈ drvC b n ↔ ∃ f : Nat, f < n ∧ b + (f : Int) = x := by
  unfold drvC
  rw [List.mem_map]
  constructor
  · rintro ⟨f, hf, rfl⟩; exact ⟨f, List.mem_range.1 hf, rfl⟩
  · rintro ⟨f, hf, rfl⟩; exact ⟨f, List.mem_range.2 hf, rfl⟩
theorem drvC_sorted (b : Int) (n : Nat) : (drvC b n).Pairwise (· < ·) := by
  unfold drvC
  rw [List.pairwise_map]
  exact List.pairwise_lt_range.imp (fun h => by omega)
theorem drvC_nodup (b : Int) (n : Nat) : (drvC b n).Nodup := (drvC_sorted b n).imp (fun h => by omega)
theorem drv_code {b : Int} {n : Nat} (hn : n ≤ 8) : drvL (codeL b n) = drvC b n := by
  refine List.Perm.eq_of_pairwise (le := (· ≤ ·)) (fun a b _ _ h1 h2 => Int.le_antisymm h1 h2) ((drv_sorted _).imp (fun h => by omega)) ((drvC_sorted b n).imp (fun h => by omega)) ?_
  refine (List.perm_ext_iff_of_nodup (drv_nodup _) (drvC_nodup b n)).2 fun x => ?_
  rw [mem_drv, mem_drvC]
  constructor
  · rintro ⟨c, hc, _, rfl⟩
    obtain ⟨f, hf, rfl⟩ := mem_code.1 hc
    exact ⟨f, hf, rfl⟩
  · rintro ⟨f, hf, rfl⟩
    refine ⟨_, mem_code.2 ⟨f, hf, rfl⟩, ?_, rfl⟩
    simp [cnt]
    omega
/-- the fragments that are left -/
def restN (b : Int) (n : Nat) (S : List Int) : Nat := ((List.range n).filter fun f : Nat => !hasI S (b + (f : Int))).length
theorem restN_le (b : Int) (n : Nat) (S : List Int) : restN b n S ≤ n := by
  have := List.length_filter_le (fun f : Nat => !hasI S (b + (f : Int))) (List.range n)
  simpa [restN] using this
theorem bit15 {s : Nat} (hs : s < 4) : bitI 15 s = true := by
  match s, hs with
  | 0, _ => rfl
  | 1, _ => rfl
  | 2, _ => rfl
  | 3, _ => rfl
theorem good_code {b : Int} {n s f : Nat} {S : List Int} (hs : s < 4) : good (withoutL (codeL b n) S) s f = (decide (f < n) && !hasI S (b + (f : Int))) := by
  rw [Bool.eq_iff_iff, good_iff, Bool.and_eq_true, Bool.not_eq_true', ← Bool.not_eq_true, hasI_iff, decide_eq_true_iff]
  constructor
  · rintro ⟨c, hc, h1, h2⟩
    obtain ⟨hc, hn⟩ := mem_without.1 hc
    obtain ⟨g, hg, rfl⟩ := mem_code.1 hc
    obtain rfl : g = f := by have h1 : (g : Int) = f := h1; omega
    exact ⟨hg, hn⟩
  · rintro ⟨h1, h2⟩
    exact ⟨_, mem_without.2 ⟨mem_code.2 ⟨f, h1, rfl⟩, h2⟩, rfl, bit15 hs⟩
theorem intact_code {b : Int} {n s : Nat} {S : List Int} (hn : n ≤ 8) (hs : s < 4) : (intactL (withoutL (codeL b n) S) s).length = restN b n S := by
  unfold intactL restN
  rw [if_pos (by omega), List.length_map]
  have e : List.range 8 = List.range n ++ (List.range (8 - n)).map (n + ·) := by
    rw [← List.range_add]
    congr 1
    omega
  rw [e, List.filter_append]
  have e1 : (List.range n).filter (good (withoutL (codeL b n) S) (s : Int).toNat) = (List.range n).filter fun f : Nat => !hasI S (b + (f : Int)) := by
    refine List.filter_congr fun f hf => ?_
    rw [good_code (by omega)]
    simp at hf
    simp [hf]
  have e2 : ((List.range (8 - n)).map (n + ·)).filter (good (withoutL (codeL b n) S) (s : Int).toNat) = [] := by
    rw [List.filter_eq_nil_iff]
    intro f hf
    simp at hf
    obtain ⟨x, _, rfl⟩ := hf
    rw [good_code (by omega)]
    simp
    omega
  rw [e1, e2, List.append_nil]
theorem least_code {b : Int} {n : Nat} {S : List Int} (hn : n ≤ 8) : ∀ t, t < 4 → leastN (withoutL (codeL b n) S) (t + 1) = restN b n S := by
  intro t
  have hr := restN_le b n S
  induction t with
  | zero =>
    intro _
    show min 8 (intactL _ ((0 : Nat) : Int)).length = _
    rw [intact_code hn (by omega)]
    omega
  | succ t ih =>
    intro ht
    show min (leastN _ (t + 1)) (intactL _ ((t + 1 : Nat) : Int)).length = _
    rw [ih (by omega), intact_code hn (by omega)]
    omega
theorem rest_sub {b : Int} {n : Nat} {S : List Int} (hS : S.Nodup) (hsub : ∀ x ∈ S, x ∈ drvC b n) : restN b n S + S.length = n := by
  have h1 : restN b n S = ((drvC b n).filter fun x => !hasI S x).length := by
    unfold restN drvC
    rw [List.filter_map, List.length_map]
    rfl
  have h2 : S.length = ((drvC b n).filter fun x => hasI S x).length := by
    refine ((List.perm_ext_iff_of_nodup hS ((drvC_nodup b n).filter _)).2 fun x => ?_).length_eq
    rw [List.mem_filter, hasI_iff]
    exact ⟨fun h => ⟨hsub x h, h⟩, fun h => h.2⟩
  rw [h1, h2, ← List.countP_eq_length_filter, ← List.countP_eq_length_filter]
  have := List.length_eq_countP_add_countP (fun x => hasI S x) (l := drvC b n)
  rw [drvC_len] at this
  have e : (drvC b n).countP (fun x => !hasI S x) = (drvC b n).countP (fun x => decide (¬ hasI S x = true)) := by
    refine List.countP_congr fun x _ => ?_
    simp
  rw [e]
  omega
section
variable {b : Int} {K n st : Nat}
theorem valid_code (h1 : 1 ≤ K) (h2 : K ≤ 6) (h3 : 1 ≤ st) (h4 : st ≤ 4) : validB (K : Int) (st : Int) = true := by
  unfold validB
  simp
  omega
theorem surv_code (h1 : 1 ≤ K) (h2 : K ≤ 6) (h3 : 1 ≤ st) (h4 : st ≤ 4) (hn : n ≤ 8) {S : List Int} (hS : S.Nodup) (hsub : ∀ x ∈ S, x ∈ drvC b n) : survF K st (codeL b n) S = decide (K + S.length ≤ n) := by
  unfold survF margF
  rw [valid_code h1 h2 h3 h4]
  obtain ⟨t, rfl⟩ : ∃ t, st = t + 1 := ⟨st - 1, by omega⟩
  simp only [if_true]
  rw [Int.toNat_natCast, least_code hn t (by omega)]
  have := rest_sub hS hsub
  simp
  omega
theorem marg_code (h1 : 1 ≤ K) (h2 : K ≤ 6) (h3 : 1 ≤ st) (h4 : st ≤ 4) (hn : n ≤ 8) : margF K st (codeL b n) = ((n : Int) - K, 0) := by
  unfold margF
  rw [valid_code h1 h2 h3 h4]
  obtain ⟨t, rfl⟩ : ∃ t, st = t + 1 := ⟨st - 1, by omega⟩
  simp only [if_true]
  have e := least_code (b := b) (S := []) hn t (by omega)
  have := rest_sub (b := b) (n := n) (S := []) List.nodup_nil (fun x hx => by cases hx)
  rw [without_nil] at e
  rw [Int.toNat_natCast, e]
  simp at this
  rw [this]
theorem cut_code (h1 : 1 ≤ K) (h2 : K ≤ 6) (h3 : 1 ≤ st) (h4 : st ≤ 4) (hn : n ≤ 8) (hk : K ≤ n) {S : List Int} (hS : S.Nodup) (hsub : ∀ x ∈ S, x ∈ drvC b n) : cutB K st (codeL b n) S = decide (S.length = n - K + 1) := by
  have key : ∀ i, i < S.length → survF K st (codeL b n) (cutI S i) = decide (K + (S.length - 1) ≤ n) := by
    intro i hi
    have e : S = S.take i ++ (S[i] :: S.drop (i + 1)) := by simp
    have h2' : (cutI S i).Nodup := by
      rw [e] at hS
      unfold cutI
      exact hS.sublist (List.Sublist.append (List.Sublist.refl _) (List.sublist_cons_self _ _))
    rw [surv_code h1 h2 h3 h4 hn h2' (fun x hx => hsub x ((mem_cut hS hi).1 hx).1), cutI_len hi]
  have e1 := surv_code h1 h2 h3 h4 hn hS hsub
  unfold cutB
  rw [e1, Bool.eq_iff_iff, Bool.and_eq_true, minB_iff]
  constructor
  · rintro ⟨q1, q2⟩
    simp at q1
    have q3 := q2 0 (by omega)
    rw [key 0 (by omega)] at q3
    simp at q3
    simp
    omega
  · intro q
    simp at q
    refine ⟨by simp; omega, fun i hi => ?_⟩
    rw [key i hi]
    simp
    omega
/-- how many bits -/
def popN (n m : Nat) : Nat := ((List.range n).filter m.testBit).length
def cntN (n p : Nat) : Nat := ((List.range (2 ^ n)).filter fun m => decide (popN n m = p)).length
/-- n over p, as the law counts it -/
def wantN (n : Nat) : Nat → Nat
  | 0 => 1
  | i + 1 => wantN n i * (n - i) / (i + 1)
theorem want_cnt : ∀ n, n < 9 → ∀ p, p < n + 1 → wantN n p = cntN n p := by decide +kernel
theorem want_small : ∀ n, n < 9 → ∀ p, p < n + 1 → wantN n p < 1000 := by decide +kernel
theorem ch_len (d : List Int) (m : Nat) : (chL d m).length = popN d.length m := by simp [chL, chK, popN]
theorem ch_sub {d : List Int} {m : Nat} {x : Int} (h : x ∈ chL d m) : x ∈ d := by
  obtain ⟨i, hi, _, rfl⟩ := mem_ch.1 h
  rw [show d.getD i 0 = d[i] by simp [hi]]
  exact List.getElem_mem _
theorem ch_sorted {d : List Int} (h : d.Pairwise (· < ·)) (m : Nat) : (chL d m).Pairwise (· < ·) := by
  unfold chL chK
  rw [List.pairwise_map]
  have h1 : ((List.range d.length).filter m.testBit).Pairwise (· < ·) := List.pairwise_lt_range.filter _
  refine List.Pairwise.imp_of_mem ?_ h1
  intro i j hi hj hij
  simp at hi hj
  have := List.pairwise_iff_getElem.1 h i j hi.1 hj.1 hij
  simpa [hi.1, hj.1] using this
theorem ch_inj {d : List Int} (h : d.Nodup) {m m' : Nat} (hm : m < 2 ^ d.length) (hm' : m' < 2 ^ d.length) (e : chL d m = chL d m') : m = m' := by
  have key : ∀ q, q < 2 ^ d.length → ∀ i, q.testBit i = true ↔ i < d.length ∧ d.getD i 0 ∈ chL d q := by
    intro q hq i
    rw [mem_ch]
    constructor
    · intro hb
      have hi := bit_lt hq hb
      exact ⟨hi, i, hi, hb, rfl⟩
    · rintro ⟨hi, j, hj, hb, he⟩
      rw [← nodup_get h hj hi he]
      exact hb
  refine Nat.eq_of_testBit_eq fun i => ?_
  rw [Bool.eq_iff_iff, key m hm, key m' hm', e]
theorem cuts_code (h1 : 1 ≤ K) (h2 : K ≤ 6) (h3 : 1 ≤ st) (h4 : st ≤ 4) (hn : n ≤ 8) (hk : K ≤ n) {L : List (List Int)} {e : Int} (hc : cutsF K st (codeL b n) = (L, e)) :
    e = 0 ∧ (∀ S ∈ L, S.length = n - K + 1 ∧ (∀ x ∈ S, b ≤ x ∧ x < b + n) ∧ S.Pairwise (· < ·)) ∧ L.Pairwise (fun x y => lessL x y = true) ∧ L.length = wantN n (n - K + 1) := by
  unfold cutsF at hc
  rw [valid_code h1 h2 h3 h4, drv_code hn, drvC_len] at hc
  rw [if_pos rfl, if_neg (by omega)] at hc
  obtain ⟨rfl, rfl⟩ := Prod.mk.inj hc
  have hnd := drvC_nodup b n
  have hpe := cutsR_perm (k := K) (st := st) (l := codeL b n) hnd (by rw [drvC_len]; omega) (2 ^ n) (by rw [drvC_len]; exact Nat.le_refl _)
  have hlb : ∀ m, m < 2 ^ n → leastB K st (codeL b n) (drvC b n) m = decide (popN n m = n - K + 1) := by
    intro m hm
    rw [least_cut hnd (by rw [drvC_len]; omega) (by rw [drvC_len]; exact hm), cut_code h1 h2 h3 h4 hn hk (ch_nodup hnd m) (fun x hx => ch_sub hx), ch_len, drvC_len]
  have hmo : ∀ S ∈ outK K st (codeL b n) (drvC b n) (2 ^ n), ∃ m, m < 2 ^ n ∧ popN n m = n - K + 1 ∧ S = chL (drvC b n) m := by
    intro S hS
    unfold outK at hS
    obtain ⟨m, hm, rfl⟩ := List.mem_map.1 hS
    rw [List.mem_filter, List.mem_range] at hm
    have := hm.2
    rw [hlb m hm.1] at this
    exact ⟨m, hm.1, by simpa using this, rfl⟩
  refine ⟨rfl, fun S hS => ?_, ?_, ?_⟩
  · obtain ⟨m, hm, hp, rfl⟩ := hmo S (hpe.mem_iff.1 hS)
    refine ⟨by rw [ch_len, drvC_len, hp], fun x hx => ?_, ch_sorted (drvC_sorted b n) m⟩
    obtain ⟨f, hf, rfl⟩ := mem_drvC.1 (ch_sub hx)
    omega
  · have hno : (outK K st (codeL b n) (drvC b n) (2 ^ n)).Nodup := by
      unfold outK
      rw [List.Nodup, List.pairwise_map]
      refine List.Pairwise.imp_of_mem ?_ (List.nodup_range.filter _)
      intro x y hx hy hne heq
      rw [List.mem_filter, List.mem_range] at hx hy
      exact hne (ch_inj hnd (by rw [drvC_len]; exact hx.1) (by rw [drvC_len]; exact hy.1) heq)
    have hnL := hpe.nodup_iff.2 hno
    refine List.Pairwise.imp₂ ?_ (cutsR_sorted _) hnL
    intro x y h1 h2
    cases hq : lessL x y with
    | true => rfl
    | false => exact absurd (less_total hq h1) h2
  · rw [hpe.length_eq]
    unfold outK
    rw [List.length_map, want_cnt n (by omega) _ (by omega)]
    unfold cntN
    congr 1
    refine List.filter_congr fun m hm => ?_
    exact hlb m (List.mem_range.1 hm)
end
end Go.Proofs.Ythljjllcdocfiaa
