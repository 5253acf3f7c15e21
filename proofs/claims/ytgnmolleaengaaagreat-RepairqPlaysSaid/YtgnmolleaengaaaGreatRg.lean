/- The walk of slices.Delete at a row of entries. -/
import Derived.Test.YtgnmolleaengaaaGreatQb
import Derived.Deep.RegionLaw
import Derived.Laws.IdiomCopy
set_option linter.unusedVariables false
set_option linter.unusedSimpArgs false
set_option linter.unnecessarySimpa false
namespace Go.Proofs.YtgnmolleaengaaaGreat
open Go Go.RowKit

def putMany (xs : List Value) (o : Nat) : List Value → List Value
  | [] => xs
  | v :: r => putMany (xs.set o v) (o + 1) r
theorem putMany_len (vs : List Value) : ∀ (xs : List Value) (o : Nat), (putMany xs o vs).length = xs.length := by
  induction vs with
  | nil => intro xs o; rfl
  | cons v r ih => intro xs o; rw [putMany, ih, List.length_set]
theorem putMany_get (vs : List Value) : ∀ (xs : List Value) (o t : Nat), o + vs.length ≤ xs.length → (putMany xs o vs)[t]? = if o ≤ t ∧ t < o + vs.length then vs[t - o]? else xs[t]? := by
  induction vs with
  | nil =>
    intro xs o t _
    rw [putMany, if_neg (by simp)]
  | cons v r ih =>
    intro xs o t h
    rw [List.length_cons] at h
    rw [putMany, ih (xs.set o v) (o + 1) t (by rw [List.length_set]; omega), List.length_cons]
    by_cases h1 : t = o
    · subst h1
      rw [if_neg (by omega), if_pos (by omega), Nat.sub_self, List.getElem?_set_self (by omega)]
      rfl
    · by_cases h2 : o ≤ t ∧ t < o + (r.length + 1)
      · rw [if_pos (by omega), if_pos h2, show t - o = (t - (o + 1)) + 1 by omega, List.getElem?_cons_succ]
      · rw [if_neg (by omega), if_neg h2, List.getElem?_set_ne (fun e => h1 e.symm)]
theorem owns_cells {B g n cap : Nat} {e : TypeId} {s : Nat} : ∀ (vs : List Value) (o : Nat) (xs : List Value) (w : World), w.ownsRow B e s (.slice (some ⟨g, 0, none⟩) n cap) n xs →
    (w.setCells g o vs).ownsRow B e s (.slice (some ⟨g, 0, none⟩) n cap) n (putMany xs o vs) ∧ w.grownBy (w.setCells g o vs) (some g)
  | [], _, _, w, h => ⟨h, rfl, rfl, rfl, Nat.le_refl _, fun _ _ _ => rfl⟩
  | v :: r, o, xs, w, h => by
    obtain ⟨h1, g1⟩ := h.stored o v
    obtain ⟨h2, g2⟩ := owns_cells r (o + 1) _ _ h1
    exact ⟨h2, g2.os.trans g1.os, g2.tape.trans g1.tape, g2.output.trans g1.output, Nat.le_trans g1.size g2.size, fun k hk hn => (g2.block k (Nat.lt_of_lt_of_le hk g1.size) hn).trans (g1.block k hk hn)⟩
theorem owns_less {B g n cap m : Nat} {e : TypeId} {s : Nat} {xs : List Value} {w : World} (h : w.ownsRow B e s (.slice (some ⟨g, 0, none⟩) n cap) n xs) (hm : m ≤ n) :
    w.ownsRow B e s (.slice (some ⟨g, 0, none⟩) m cap) m (xs.take (m * s)) := by
  obtain ⟨hl, h⟩ := h
  have hms : m * s ≤ n * s := Nat.mul_le_mul_right s hm
  refine ⟨by rw [List.length_take]; omega, ?_⟩
  rcases h with ⟨h0, _⟩ | ⟨g', cap', cur, he, hB, hg, h1, h2, h3, h4⟩
  · cases h0
  · cases he
    refine .inr ⟨g, cap, cur, rfl, hB, hg, by omega, h2, h3, ?_⟩
    rw [← h4, List.take_take, Nat.min_eq_left hms]

def zeroEn : Array Value := #[.int .i64 0, .int .i64 0, .int .i64 0, .bool false, .slice none 0 0, .slice none 0 0, .int .i64 0, .bool false, .bool false]
theorem info60 : (Tryz.prog.info? 76).map (fun i => (i.zero, i.size, i.bytes)) = some (some (.agg zeroEn), 9, 96) := by kernel_rfl
theorem elt53 : Elt 66 76 9 96 := by
  obtain ⟨i, hi, hz0, hz1, hz2⟩ := info_parts info60
  exact ⟨by kernel_rfl, ⟨i, _, hi, hz0, hz1, hz2, rfl⟩, by decide, by decide⟩
theorem zero60 (w : World) : (zeroValue 76).run Tryz.prog w = .ok (.agg zeroEn) w := by
  obtain ⟨i, hi, hz0, hz1, hz2⟩ := info_parts info60
  simp [zeroValue, typeInfo, hi, hz0]
theorem clear60 (w : World) (ty : TypeId) (b o c : Nat) (hc : ∀ j, j < 9 → (w.cell? ⟨b, o + j, none⟩).isSome = true) (hf : ∀ j, j < 9 → w.frozen? ⟨b, o + j, none⟩ = false) :
    (Builtin.clear_ #[66] ty #[.slice (some ⟨b, o, none⟩) 1 c]).run Tryz.prog w = .ok (.tuple #[]) (w.setCells b o zeroEn.toList) := by
  have hzc : (Builtin.zeroCells (Value.agg zeroEn).cells 1).toList = zeroEn.toList := by kernel_rfl
  have hst := run_storeCells_cells (P := Tryz.prog) b o zeroEn.toList 0 w (fun j hj => by rw [Nat.add_zero]; exact hc j hj) (fun j hj => by rw [Nat.add_zero]; exact hf j hj) (by intro v hv; simp [zeroEn] at hv; rcases hv with rfl | rfl | rfl | rfl | rfl <;> rfl)
  simp only [Nat.add_zero] at hst
  have hu : Tryz.prog.underlying 66 = some (.slice 76) := by kernel_rfl
  have hz := zero60 w
  unfold zeroEn at *
  simp only [Builtin.clear_, Sem.run_bind, run_underlying hu, hz, hzc, hst, Result.andThen]
  simp [Builtin.clear_, run_underlying hu, hz, hzc, hst]

theorem flat_erase (L : List En) (i : Nat) (hi : i < L.length) (vs zs : List Value) (h1 : vs = eE.flat (L.drop (i + 1))) (hz : zs.length = 9) :
    (putMany (putMany (eE.flat L) (i * 9) vs) ((L.length - 1) * 9) zs).take ((L.length - 1) * 9) = eE.flat (L.eraseIdx i) := by
  have hfl : (eE.flat L).length = L.length * 9 := flat_len L
  have hvs : vs.length = (L.length - (i + 1)) * 9 := by rw [h1, flat_len, List.length_drop]; rfl
  apply List.ext_getElem?
  intro t
  rw [List.getElem?_take]
  have hel : (eE.flat (L.eraseIdx i)).length = (L.length - 1) * 9 := by rw [flat_len, List.length_eraseIdx, if_pos hi]; rfl
  split
  · rename_i ht
    rw [putMany_get _ _ _ _ (by rw [putMany_len, hfl, hz]; omega), if_neg (by omega), putMany_get _ _ _ _ (by rw [hfl, hvs]; omega)]
    have e : L.eraseIdx i = L.take i ++ L.drop (i + 1) := List.eraseIdx_eq_take_drop_succ L i
    have hti : (eE.flat (L.take i)).length = i * 9 := by rw [flat_len, List.length_take, Nat.min_eq_left (by omega)]; rfl
    rw [e, flat_app]
    split
    · rw [List.getElem?_append_right (by rw [hti]; omega), hti, h1]
    · rw [List.getElem?_append_left (by rw [hti]; omega), flat_take, List.getElem?_take]
      rw [if_pos (show t < i * eE.k by show t < i * 9; omega)]
  · rw [List.getElem?_eq_none (by rw [hel]; omega)]

set_option maxRecDepth 1000000 in
set_option maxHeartbeats 4000000 in
theorem delete_as {w : World} {B g n cap i j : Nat} {L : List En} (h : w.ownsRow B 76 9 (.slice (some ⟨g, 0, none⟩) n cap) n (eE.flat L)) (hn : L.length = n) (hi : i < n) (hj : j = i + 1) (hn2 : n ≤ 1000) :
    Calls Tryz.prog 46 #[.slice (some ⟨g, 0, none⟩) n cap, .int .i64 i, .int .i64 j] w fun e w' => e = .returned (.slice (some ⟨g, 0, none⟩) (n - 1) cap) ∧ w'.ownsRow B 76 9 (.slice (some ⟨g, 0, none⟩) (n - 1) cap) (n - 1) (eE.flat (L.eraseIdx i)) ∧ w.grownBy w' (some g) := by
  obtain ⟨i0, hi0, hz0, hz1, hz2⟩ := info_parts info60
  have u53 : Tryz.prog.underlying 66 = some (.slice 76) := by kernel_rfl
  have hcap : n ≤ cap ∧ cap ≤ 9223372036854775807 := by
    rcases h.2 with ⟨h0, _⟩ | ⟨g', cap', cur, he, _, _, h1, h2, _⟩
    · cases h0
    · cases he; unfold maxLen at h2; exact ⟨h1, h2⟩
  obtain ⟨hc1, hc2⟩ := hcap
  obtain ⟨news, hnews⟩ : ∃ news, news = eE.flat (L.drop (i + 1)) := ⟨_, rfl⟩
  have hlen : news.length = (n - j) * 9 := by rw [hnews, flat_len, List.length_drop, hn, hj]; rfl
  have hfl : (eE.flat L).length = n * 9 := by rw [flat_len, hn]; rfl
  have hget : ∀ t u, news[t]? = some u → w.cell? ⟨g, j * 9 + t, none⟩ = some u := by
    intro t u hu
    have ht := (List.getElem?_eq_some_iff.1 hu).1
    rw [hlen] at ht
    rw [h.cellAt _ (by omega), ← hu, hnews, hj, flat_drop, List.getElem?_drop]
    rfl
  obtain ⟨A, hA, hsrc⟩ : ∃ A : Addr, (if cap = j then some (⟨g, 0, none⟩ : Addr) else some ⟨g, j * 9, none⟩) = some A ∧ Hid (∀ t u, news[t]? = some u → w.drew.cell? (A.add t) = some u) := by
    by_cases hq : cap = j
    · refine ⟨⟨g, 0, none⟩, by simp [hq], fun t u hu => ?_⟩
      have h0 : news.length = 0 := by rw [hlen]; omega
      rw [List.length_eq_zero_iff.1 h0] at hu
      simp at hu
    · exact ⟨⟨g, j * 9, none⟩, by simp [hq], fun t u hu => by rw [Addr.add_lit]; exact hget t u hu⟩
  have s1 : Hid (news.length = (n - j) * 9) := hlen
  have s2 : Hid (∀ u ∈ news, u.oneCell' = true) := by rw [hnews]; exact flat_one _
  have hcell : ∀ t, t < n * 9 → (w.cell? ⟨g, t, none⟩).isSome = true := fun t ht => by
    rw [h.cellAt t ht, List.getElem?_eq_getElem (by omega)]; rfl
  have s3 : Hid (∀ t, t < news.length → (w.drew.cell? ⟨g, 0 + i * 9 + t, none⟩).isSome = true ∧ w.drew.frozen? ⟨g, 0 + i * 9 + t, none⟩ = false) := by
    intro t ht
    rw [hlen] at ht
    exact ⟨hcell _ (by omega), h.frozenAt _⟩
  obtain ⟨W1, hW1⟩ : ∃ W1, W1 = w.drew.setCells g (0 + i * 9) news := ⟨_, rfl⟩
  have hd : w.drew.ownsRow B 76 9 (.slice (some ⟨g, 0, none⟩) n cap) n (eE.flat L) := h
  obtain ⟨o1, g1⟩ := owns_cells news (0 + i * 9) _ _ hd
  rw [← hW1] at o1 g1
  have hpl : (putMany (eE.flat L) (0 + i * 9) news).length = n * 9 := by rw [putMany_len]; exact hfl
  have hcl : ∀ ty, (Builtin.clear_ #[66] ty #[.slice (some ⟨g, (n - 1) * 9, none⟩) (n - (n - 1)) (cap - (n - 1))]).run Tryz.prog W1 = .ok (.tuple #[]) (W1.setCells g ((n - 1) * 9) zeroEn.toList) := fun ty => by
    rw [show n - (n - 1) = 1 by omega]
    exact clear60 W1 ty g _ _ (fun t ht => by rw [o1.cellAt _ (by omega), List.getElem?_eq_getElem (by rw [hpl]; omega)]; rfl) (fun t ht => o1.frozenAt _)
  obtain ⟨o2, g2⟩ := owns_cells zeroEn.toList ((n - 1) * 9) _ _ o1
  have o3 := owns_less o2 (m := n - 1) (by omega)
  rw [Nat.zero_add] at o3
  have hfe := flat_erase L i (by omega) news zeroEn.toList hnews rfl
  rw [hn] at hfe
  rw [hfe] at o3
  have O3 := Lib.hid o3
  have GR := Lib.hid (show w.grownBy (W1.setCells g ((n - 1) * 9) zeroEn.toList) (some g) from ⟨g2.os.trans g1.os, g2.tape.trans g1.tape, g2.output.trans g1.output, Nat.le_trans g1.size g2.size, fun k hk hne => (g2.block k (Nat.lt_of_lt_of_le hk g1.size) hne).trans (g1.block k hk hne)⟩)
  have hW : Hid (W1 = w.drew.setCells g (0 + i * 9) news) := hW1
  have hij : (i == j) = false := by simp; omega
  have hj1 : j ≤ n := by omega
  have hij2 : i ≤ j := by omega
  have hic : i ≤ cap := by omega
  have hjc : j ≤ cap := by omega
  have hnn : i + (n - j) = n - 1 := by omega
  have HNN := Lib.hid hnn
  clear h hd o1 o2 o3 g1 g2 hW1 hpl hget hnews hlen hfl hcell hfe hn hj hnn
  go_enter Tryz.func46, Tryz.ntmps46
  go_wp2_with fail
  go_region_law (refine step_append_room rfl (.tmp 22) (.tmp 25) 66 rfl 76 i0 9 u53 hi0 hz1 g 0 i cap (by simp [Act.eval, Act.put]) A (n - j) (cap - j) news (by simp [Act.eval, Act.put]) s1.out hsrc.out s2.out (by omega) s3.out ?_; rw [← hW.out])
  rw [HNN.out]
  go_wp2
  go_ret
  exact ⟨rfl, O3.out, GR.out⟩
end Go.Proofs.YtgnmolleaengaaaGreat
