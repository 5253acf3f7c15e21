/- MarginMonotone: the plain law and the walk. -/
import Derived.Test.YthljjllcdocfiaaF3
set_option linter.unusedVariables false
set_option linter.unusedSimpArgs false
set_option linter.unnecessarySimpa false
namespace Go.Proofs.Ythljjllcdocfiaa
open Go Go.RowKit Go.MapKept

theorem intact_mono {l m : List Cp} (h : ∀ s f, good l s f = true → good m s f = true) (s : Int) : (intactL l s).length ≤ (intactL m s).length := by
  unfold intactL
  split
  · rw [List.length_map, List.length_map, ← List.countP_eq_length_filter, ← List.countP_eq_length_filter]
    exact List.countP_mono_left (fun x _ hx => h _ _ hx)
  · exact Nat.le_refl _
theorem least_mono {l m : List Cp} (h : ∀ s f, good l s f = true → good m s f = true) : ∀ n, leastN l n ≤ leastN m n
  | 0 => Nat.le_refl _
  | n + 1 => by
    have h1 := least_mono h n
    have h2 := intact_mono h (n : Int)
    show min (leastN l n) (intactL l n).length ≤ min (leastN m n) (intactL m n).length
    omega
theorem good_iff {l : List Cp} {s f : Nat} : good l s f = true ↔ ∃ c ∈ l, c.1 = (f : Int) ∧ bitI c.2.2 s = true := by
  unfold good
  rw [List.any_eq_true]
  constructor
  · rintro ⟨c, hc, h⟩; simp at h; exact ⟨c, hc, h⟩
  · rintro ⟨c, hc, h⟩; exact ⟨c, hc, by simp [h]⟩
theorem good_sub {l m : List Cp} (h : ∀ c ∈ l, c ∈ m) (s f : Nat) (hg : good l s f = true) : good m s f = true := by
  obtain ⟨c, hc, h2⟩ := good_iff.1 hg
  exact good_iff.2 ⟨c, h c hc, h2⟩
theorem mem_without {l : List Cp} {d : List Int} {c : Cp} : c ∈ withoutL l d ↔ c ∈ l ∧ c.2.1 ∉ d := by
  unfold withoutL
  rw [List.mem_filter]
  refine and_congr_right fun _ => ?_
  rw [Bool.not_eq_true', ← Bool.not_eq_true, hasI_iff]
theorem valid_small {k s : Int} (h1 : 0 ≤ k) (h2 : k < 4) (h3 : 0 ≤ s) (h4 : s < 4) : validB (1 + k) (1 + s) = true := by
  unfold validB
  simp
  omega
theorem marg_small {k s : Int} (h1 : 0 ≤ k) (h2 : k < 4) (h3 : 0 ≤ s) (h4 : s < 4) (l : List Cp) : margF (1 + k) (1 + s) l = ((leastN l (1 + s).toNat : Int) - (1 + k), 0) := by
  unfold margF
  rw [valid_small h1 h2 h3 h4]
  rfl
theorem surv_small {k s : Int} (h1 : 0 ≤ k) (h2 : k < 4) (h3 : 0 ≤ s) (h4 : s < 4) (l : List Cp) (d : List Int) : survF (1 + k) (1 + s) l d = decide (0 ≤ (leastN (withoutL l d) (1 + s).toNat : Int) - (1 + k)) := by
  unfold survF
  rw [marg_small h1 h2 h3 h4]
  simp
theorem surv_fewer {k s : Int} (h1 : 0 ≤ k) (h2 : k < 4) (h3 : 0 ≤ s) (h4 : s < 4) {l : List Cp} {a b : List Int} (hs : ∀ x ∈ a, x ∈ b) (h : survF (1 + k) (1 + s) l b = true) : survF (1 + k) (1 + s) l a = true := by
  rw [surv_small h1 h2 h3 h4] at h ⊢
  have := least_mono (l := withoutL l b) (m := withoutL l a) (fun s f hg => good_sub (fun c hc => by rw [mem_without] at hc ⊢; exact ⟨hc.1, fun q => hc.2 (hs _ q)⟩) s f hg) (1 + s).toNat
  simp at h ⊢
  omega
theorem without_nil (l : List Cp) : withoutL l [] = l := by
  unfold withoutL
  rw [List.filter_eq_self]
  intro c _
  rfl
theorem Rd.take2 {α : Type} {E : Enc α} {w : World} {a : Option Addr} {n cap : Nat} {l : List α} (h : Rd E w (.slice a n cap) l) {i : Nat} (hi : i ≤ l.length) : Rd E w (.slice a i cap) (l.take i) := by
  obtain ⟨a', cap', e, hl, h⟩ := h
  cases e
  refine ⟨_, cap, by rw [List.length_take, Nat.min_eq_left hi], by rw [List.length_take]; omega, ?_⟩
  rcases h with h | ⟨b', off', e, hlt, hc⟩
  · exact .inl (by simp [h])
  · cases e
    refine .inr ⟨b', off', rfl, hlt, fun j u hu => hc j u ?_⟩
    rw [flat_take, List.getElem?_take] at hu
    split at hu
    · exact hu
    · cases hu
set_option maxHeartbeats 8000000 in
set_option maxRecDepth 20000 in
theorem monotone_law (k st at_ : Int) (v v2 u : Value) (l l2 : List Cp) (d : List Int) (w : World) (h : Rd eC w v l) (h2 : Rd eC w v2 l2) (hd : Rd eI w u d) (h64 : ∀ c ∈ l, InC c) (h642 : ∀ c ∈ l2, InC c) (hk : In64 k) (hs : In64 st) (hat : In64 at_) :
    Calls Try.prog 7 #[.int .i64 k, .int .i64 st, v, v2, u, .int .i64 at_] w fun e w' => e = .returned (.bool true) ∧ Below w.heap.size w w' := by
  obtain ⟨a, cap, rfl, hlen⟩ := h.open
  obtain ⟨a2, cap2, rfl, hlen2⟩ := h2.open
  obtain ⟨a3, cap3, rfl, hlen3⟩ := hd.open
  have H := Lib.hid h
  have H2 := Lib.hid h2
  have HD := Lib.hid hd
  obtain ⟨n, hn⟩ : ∃ n, l.length = n := ⟨_, rfl⟩
  have HN := Lib.hid hn
  obtain ⟨n2, hn2⟩ : ∃ n, l2.length = n := ⟨_, rfl⟩
  have HN2 := Lib.hid hn2
  obtain ⟨m, hm⟩ : ∃ n, d.length = n := ⟨_, rfl⟩
  have HM := Lib.hid hm
  obtain ⟨q, hq⟩ : ∃ q, (decide (l.length ≤ 24) && decide (d.length ≤ 24)) = q := ⟨_, rfl⟩
  have KS := Lib.hid (short_as _ _ l d w h hd hq)
  rw [hn] at KS hlen hq ⊢
  rw [hm] at KS hlen3 hq ⊢
  rw [hn2] at hlen2 ⊢
  cases q with
  | false =>
    clear h hn hq hd hm h2 hn2
    go_enter Try.func7, Try.ntmps7
    go_wp2_with (first
      | (go_at_call 11; (with_reducible refine KS.out.mono ?_); rintro e w1 ⟨rfl, rfl⟩)
      | (go_at_call 12; (with_reducible refine (awake_any _).mono ?_); rintro e w2 ⟨rfl, hb⟩; have HB := Lib.hid hb; clear hb))
    go_ret
    exact ⟨rfl, HB.out⟩
  | true =>
    by_cases h24 : 24 < n2
    · clear h hn hq hd hm h2 hn2
      go_enter Try.func7, Try.ntmps7
      go_wp2_with (first
        | (go_at_call 11; (with_reducible refine KS.out.mono ?_); rintro e w1 ⟨rfl, rfl⟩)
        | (go_at_call 12; (with_reducible refine (awake_any _).mono ?_); rintro e w2 ⟨rfl, hb⟩; have HB := Lib.hid hb; clear hb))
      go_ret
      exact ⟨rfl, HB.out⟩
    · have hq2 : n ≤ 24 ∧ m ≤ 24 := by simpa using hq
      obtain ⟨hn24, hm24⟩ := hq2
      have KN := Lib.hid (near_any _ l w h h64 (by omega))
      rw [hn] at KN
      have KN2 := fun wg (hw : Below w.heap.size w wg) => Lib.hid (near_any _ l2 wg (h2.keep hw) h642 (by omega))
      rw [hn2] at KN2
      have HNL := Lib.hid (show (nearL l).length = n by unfold nearL; rw [List.length_map, hn])
      have HNL2 := Lib.hid (show (nearL l2).length = n2 by unfold nearL; rw [List.length_map, hn2])
      unfold In64 at hk hs hat
      have W2 := fun wg => Lib.hid (within_any k 4 wg (by omega) (by omega) hk.1 hk.2)
      have W3 := fun wg => Lib.hid (within_any st 4 wg (by omega) (by omega) hs.1 hs.2)
      have W4 := fun wg => Lib.hid (within_any at_ ((m : Int) + 1) wg (by omega) (by omega) hat.1 hat.2)
      have hs4 : 0 ≤ st % 4 ∧ st % 4 < 4 := by omega
      have hk4 : 0 ≤ k % 4 ∧ k % 4 < 4 := by omega
      have ha4 : 0 ≤ at_ % ((m : Int) + 1) ∧ at_ % ((m : Int) + 1) < (m : Int) + 1 := ⟨Int.emod_nonneg _ (by omega), Int.emod_lt_of_pos _ (by omega)⟩
      obtain ⟨s', hs'⟩ : ∃ x, st % 4 = x := ⟨_, rfl⟩
      obtain ⟨k', hk'⟩ : ∃ x, k % 4 = x := ⟨_, rfl⟩
      obtain ⟨ct, hct⟩ : ∃ c : Nat, at_ % ((m : Int) + 1) = c := ⟨(at_ % ((m : Int) + 1)).toNat, by omega⟩
      rw [hs'] at W3 hs4
      rw [hk'] at W2 hk4
      rw [hct] at W4 ha4
      have hctm : ct ≤ m := by omega
      obtain ⟨hs41, hs42⟩ := hs4
      obtain ⟨hk41, hk42⟩ := hk4
      obtain ⟨x1, hx1⟩ : ∃ x : Int, (leastN (nearL l) (1 + s').toNat : Int) - (1 + k') = x := ⟨_, rfl⟩
      obtain ⟨x2, hx2⟩ : ∃ x : Int, (leastN (nearL l ++ nearL l2) (1 + s').toNat : Int) - (1 + k') = x := ⟨_, rfl⟩
      have hle : x1 ≤ x2 := by
        have := least_mono (l := nearL l) (m := nearL l ++ nearL l2) (fun s f hg => good_sub (fun c hc => List.mem_append.2 (.inl hc)) s f hg) (1 + s').toNat
        omega
      have HE1 := Lib.hid (show margF (1 + k') (1 + s') (nearL l) = (x1, 0) by rw [marg_small hk41 hk42 hs41 hs42, hx1])
      have HE2 := Lib.hid (show margF (1 + k') (1 + s') (nearL l ++ nearL l2) = (x2, 0) by rw [marg_small hk41 hk42 hs41 hs42, hx2])
      have HZ0 := Lib.hid (show survF (1 + k') (1 + s') (nearL l) [] = decide (0 ≤ x1) by rw [surv_small hk41 hk42 hs41 hs42, without_nil, hx1])
      obtain ⟨z1, hz1⟩ : ∃ z, survF (1 + k') (1 + s') (nearL l) d = z := ⟨_, rfl⟩
      have HZ1 := Lib.hid hz1
      have HZ2 := Lib.hid (show z1 = true → survF (1 + k') (1 + s') (nearL l) (d.take ct) = true from fun hz => surv_fewer hk41 hk42 hs41 hs42 (fun x hx => List.mem_of_mem_take hx) (by rw [hz1, hz]))
      have hcap3 := hd.caps
      rw [hm] at hcap3
      obtain ⟨hc31, hc32, -⟩ := hcap3
      have hctc : ct ≤ cap3 := by omega
      have hd' : Rd eI w (.slice a3 m cap3) d := by rw [← hm]; exact hd
      have HT := Lib.hid (hd'.take2 (i := ct) (by omega))
      have HD' := Lib.hid hd'
      have hz0 : ((decide (0 ≤ x1)) == decide (x1 ≥ 0)) = true := by simp
      clear h hn hq h64 hk hs hat hs' hk' hct hd hm hx1 hx2 hz1 h2 hn2 h642 hd'
      rcases (by cases z1 <;> simp : z1 = false ∨ z1 = true) with rfl | rfl <;> rcases (by omega : 0 ≤ x1 ∨ x1 < 0) with hxx | hxx
      all_goals
        have HZ0' := Lib.hid (HZ0.out)
        go_enter Try.func7, Try.ntmps7
        go_wp2_with (first
          | (go_at_call 11; (with_reducible refine KS.out.mono ?_); rintro e w1 ⟨rfl, rfl⟩)
          | (go_at_call 13; (with_reducible refine KN.out.mono ?_); rintro e w1 ⟨np, nc, rfl, ho⟩; rw [HNL.out] at ho ⊢; have HNR := Lib.hid (ho.rd (by rw [HNL.out]; omega)); have HB1 := Lib.hid ho.below; clear ho)
          | (go_at_call 14; (with_reducible refine (W2 _).out.mono ?_); rintro e w2 ⟨rfl, rfl⟩)
          | (go_at_call 14; (with_reducible refine (W3 _).out.mono ?_); rintro e w2 ⟨rfl, rfl⟩)
          | (go_at_call 14; (with_reducible refine (W4 _).out.mono ?_); rintro e w2 ⟨rfl, rfl⟩)
          | (go_at_call 15; (with_reducible refine (Margin_as _ (1 + k') (1 + s') (nearL l) _ HNR.out HE1.out).mono ?_); rintro e w3 ⟨rfl, hb⟩; have HB3 := Lib.hid (HB1.out.trans (hb.mono HB1.out.size)); have HN3 := Lib.hid (HNR.out.keep hb); clear hb)
          | (at_builtin; refine wpList_more elt22 (E := eC) (l := []) (m := nearL l) _ _ rfl rfl rfl rfl (Ow.start 44 w3) HN3.out (by rw [HNL.out]; simp; omega) ?_; intro p4 c4 w4 HO4 HG4; rw [HNL.out] at HO4 ⊢; rw [show ([] : List Cp).length + n = n from Nat.zero_add n, List.nil_append] at HO4; rw [show ([] : List Cp).length + n = n from Nat.zero_add n]; have HN4 := Lib.hid (HN3.out.keep HO4.out.below); have HB4 := Lib.hid (HB3.out.trans (HO4.out.below.mono HB3.out.size)); clear HG4)
          | (go_at_call 13; (with_reducible refine (KN2 _ HB4.out).out.mono ?_); rintro e w5 ⟨mp, mc, rfl, ho⟩; rw [HNL2.out] at ho ⊢; have HM5 := Lib.hid (ho.rd (by rw [HNL2.out]; omega)); have HN5 := Lib.hid (HN4.out.keep ho.below); have HO5 := Lib.hid (HO4.out.grow ho.below); have HB5 := Lib.hid (HB4.out.trans (ho.below.mono HB4.out.size)); clear ho)
          | (at_builtin; refine wpList_more elt22 (E := eC) (l := nearL l) (m := nearL l2) _ _ rfl rfl rfl rfl HO5.out HM5.out (by rw [HNL.out, HNL2.out]; omega) ?_; intro p6 c6 w6 HO6 HG6; rw [HNL.out, HNL2.out] at HO6 HG6 ⊢; have HR6 := Lib.hid (HO6.out.rd (by rw [List.length_append, HNL.out, HNL2.out]; omega)); have hb6 := HO6.out.below; have HN6 := Lib.hid (HN3.out.keep hb6); have HB6 := Lib.hid (HB3.out.trans (hb6.mono HB3.out.size)); clear hb6)
          | (go_at_call 15; (with_reducible refine (Margin_as _ (1 + k') (1 + s') (nearL l ++ nearL l2) _ HR6.out HE2.out).mono ?_); rintro e w7 ⟨rfl, hb⟩; have HB7 := Lib.hid (HB6.out.trans (hb.mono HB6.out.size)); have HN7 := Lib.hid (HN6.out.keep hb); clear hb)
          | (go_at_call 12; (with_reducible refine (awake_any _).mono ?_); rintro e w8 ⟨rfl, hb⟩; have HB8 := Lib.hid (HB7.out.trans (hb.mono HB7.out.size)); have HN8 := Lib.hid (HN7.out.keep hb); clear hb)
          | (go_at_call 20; (with_reducible refine (Survives_as _ _ (1 + k') (1 + s') (nearL l) d _ HN8.out (HD'.out.keep HB8.out) (by rw [HNL.out]; omega) HZ1.out).mono ?_); rintro e w9 ⟨rfl, hb⟩; have HB9 := Lib.hid (HB8.out.trans (hb.mono HB8.out.size)); have HN9 := Lib.hid (HN8.out.keep hb); have tok9 := Lib.hid trivial; clear hb)
          | (go_at_call 20; (with_reducible refine (Survives_as _ _ (1 + k') (1 + s') (nearL l) (d.take ct) _ HN9.out (HT.out.keep HB9.out) (by rw [HNL.out]; omega) (HZ2.out (by trivial))).mono ?_); rintro e w10 ⟨rfl, hb⟩; have HB10 := Lib.hid (HB9.out.trans (hb.mono HB9.out.size)); have HN10 := Lib.hid (HN9.out.keep hb); clear hb)
          | (go_at_call 20; (with_reducible refine (Survives_as _ _ (1 + k') (1 + s') (nearL l) [] _ (by first | exact HN10.out | exact HN9.out) (Rd.nil _ none 0 (by omega)) (by rw [HNL.out]; omega) HZ0.out).mono ?_); rintro e w11 ⟨rfl, hb⟩; have HB11 := Lib.hid ((by first | exact HB10.out | exact HB9.out : Below w.heap.size w _).trans (hb.mono (by first | exact HB10.out.size | exact HB9.out.size))); clear hb))
        go_ret
        exact ⟨rfl, HB11.out⟩
end Go.Proofs.Ythljjllcdocfiaa
