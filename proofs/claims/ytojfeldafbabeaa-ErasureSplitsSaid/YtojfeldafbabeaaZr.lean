/- append(s, make([]byte, m)...) onto a slice of the call's own. -/
import Derived.Test.YtojfeldafbabeaaTw
import Derived.Lib.AppendZeros
set_option linter.unusedVariables false
set_option linter.unusedSimpArgs false
set_option linter.unnecessarySimpa false
namespace Go.Proofs.Ytojfeldafbabeaa
open Go.RowKit Go.Mem Go.Deep

theorem zeroCells_one (m : Nat) : Builtin.zeroCells #[.int .u8 0] m = (List.replicate m (Value.int .u8 0)).toArray := by
  unfold Builtin.zeroCells
  apply Array.ext
  · simp
  · intro i h1 h2
    simp [Nat.mod_one]

theorem app_zeros_run {W : World} {B : Nat} {v : Value} {n m : Nat} {xs : List Value} (ty : TypeId) (hown : W.ownsRow B 5 1 v n xs) (hB : B ≤ W.heap.size) (hs : n + m ≤ 100000) :
    ∃ v' w', (Builtin.append_ #[31, 3] ty #[v, .int .i64 m]).run Try.prog W = .ok v' w' ∧ w'.ownsRow B 5 1 v' (n + m) (xs ++ List.replicate m (.int .u8 0)) ∧ W.grownBy w' v.ownBlock := by
  obtain ⟨i, hi, hz, hsz, hby⟩ := info_parts info5
  have ht := Try.underlying31
  have htn := Try.underlying3
  have hw : IntKind.i64.wrap (m : Int) = m := by rw [IntKind.wrap_i64]; omega
  have h48i : ¬ (281474976710656 < (m : Int) * (i.bytes : Int)) := by rw [hby]; omega
  have hneg : ¬ ((m : Int) < 0) := by omega
  have hxl := hown.1
  by_cases hm : m = 0
  · subst hm
    refine ⟨v, W, ?_, by simpa using hown, ⟨rfl, rfl, rfl, Nat.le_refl _, fun _ _ _ => rfl⟩⟩
    have hw0 : IntKind.i64.wrap (0 : Int) = 0 := by decide
    rcases hown.2 with ⟨rfl, rfl⟩ | ⟨g, cap, cur, rfl, hbg, hg, hnc, hcm, hcs, htake⟩
    · simp [Builtin.append_, run_underlying ht, run_underlying htn, sizeOf, typeInfo, hi, asInt, asIntOf, hw0]
    · simp [Builtin.append_, run_underlying ht, run_underlying htn, sizeOf, typeInfo, hi, asInt, asIntOf, hw0, hnc, storeCells]
  · rcases hown.2 with ⟨rfl, rfl⟩ | ⟨g, cap, cur, rfl, hbg, hg, hnc, hcm, hcs, htake⟩
    · have hr := Lib.run_append_nil_zeros (P := Try.prog) W 31 3 ty 5 i (.int .u8 0) .i64 .i64 ht htn hi hz m (by omega) (by omega) (by omega) (by rw [hby]; omega)
      have hx : xs = [] := List.eq_nil_of_length_eq_zero (by simpa using hxl)
      subst hx
      refine ⟨_, _, hr, ?_, ⟨rfl, rfl, rfl, by simp, fun k hk _ => blk_alloc_lt W.drew _ k hk⟩⟩
      have hge := grownCap_ge W m 0 5
      have hcm := grownCap_le_maxLen W m 0 5 (by unfold maxLen; omega)
      rw [Nat.zero_add]
      refine ⟨by simp, .inr ⟨W.heap.size, _, _, rfl, hB, heap_alloc_new W.drew _, hge, hcm, ?_, ?_⟩⟩
      · rw [show (Value.int IntKind.u8 0).cells = #[.int .u8 0] from rfl, zeroCells_one, zeroCells_one]
        simp
        omega
      · rw [show (Value.int .u8 0).cells = #[.int .u8 0] from rfl, zeroCells_one, zeroCells_one]
        simp
    · have hone : (Value.int IntKind.u8 0).cells = #[.int .u8 0] := rfl
      by_cases hroom : n + m ≤ cap
      · have hst := run_storeCells_at Try.prog g (n * i.size) 5 (List.replicate m (Value.int .u8 0)) 0 cur W hg (by rw [hcs, hsz]; simp; omega) (by intro u hu; rw [(List.mem_replicate.1 hu).2]; rfl)
        simp only [Nat.add_zero] at hst
        have hns : ¬ (m * i.size = 0) := by rw [hsz]; omega
        refine ⟨.slice (some ⟨g, 0, none⟩) (n + m) cap, W.setRow g (cur.toList.take (n * i.size) ++ List.replicate m (Value.int .u8 0) ++ cur.toList.drop (n * i.size + m)).toArray, ?_, ?_, ?_⟩
        · simp only [List.length_replicate] at hst
          simp [Builtin.append_, run_underlying ht, run_underlying htn, sizeOf, typeInfo, zeroValue, hi, hz, asInt, asIntOf, hw, hneg, h48i, hroom, hns, hone, zeroCells_one, Addr.add_lit, hst]
        · refine ⟨by simp; omega, .inr ⟨g, cap, _, rfl, hbg, setRow_heap W g cur _ 5 _ hg, hroom, hcm, ?_, ?_⟩⟩
          · rw [hsz]
            simp
            omega
          · rw [hsz]
            have e1 : cur.toList.take (n * 1) = xs := htake
            have hxl' : xs.length = n := by simpa using hxl
            rw [e1, List.take_left' (by simp [hxl'])]
        · exact ⟨rfl, rfl, rfl, by simp [World.setRow], fun k _ hk => setRow_other W g k _ (fun e => hk (by simp [Value.ownBlock, e]))⟩
      · have hn' : ¬ (n + m ≤ cap) := hroom
        have hfit : Builtin.nextslicecap (n + m) cap * i.bytes ≤ 281474976710656 := growslice_fits (by omega) (by rw [hby]; omega)
        have h63' : ¬ (9223372036854775807 < ((n : Int) + (m : Int))) := by omega
        have h48' : ¬ (281474976710656 < Builtin.nextslicecap (n + m) cap * i.bytes) := by omega
        have hns : ¬ (m * i.size = 0) := by rw [hsz]; omega
        have holds : ∀ j u, xs[j]? = some u → W.cell? ((⟨g, 0, none⟩ : Addr).add j) = some u := hown.cells (g := g) rfl
        have hfo := run_firstCells_some (P := Try.prog) W.drew i.size n ⟨g, 0, none⟩ n cap xs (by rw [hsz]; exact hxl) (by simpa using holds)
        refine ⟨_, _, (?_ : _ = Result.ok (Value.slice (some ⟨W.heap.size, 0, none⟩) (n + m) (grownCap W (n + m) cap 5)) (W.drew.alloc (.cells (xs.toArray ++ (List.replicate m (Value.int .u8 0)).toArray ++ Builtin.zeroCells #[.int .u8 0] (grownCap W (n + m) cap 5 - (n + m))) 5))), ?_, ⟨rfl, rfl, rfl, by simp, fun k hk _ => blk_alloc_lt W.drew _ k hk⟩⟩
        · simp [Builtin.append_, run_underlying ht, run_underlying htn, sizeOf, typeInfo, zeroValue, hi, hz, asInt, asIntOf, hw, hneg, h48i, hn', h63', h48', hns, hone, Question.forced, hfo, newRow, grownCap, zeroCells_one]
        · have hge := grownCap_ge W (n + m) cap 5
          have hcm2 := grownCap_le_maxLen W (n + m) cap 5 (by unfold maxLen; omega)
          have hxl' : xs.length = n := by simpa using hxl
          refine ⟨by simp [hxl'], .inr ⟨W.heap.size, _, _, rfl, hB, heap_alloc_new W.drew _, hge, hcm2, ?_, ?_⟩⟩
          · simp [hxl', zeroCells_one]
            omega
          · rw [zeroCells_one]
            simp [hxl']
            rw [List.take_append, List.take_of_length_le (by omega), hxl', Nat.add_sub_cancel_left, List.take_replicate, Nat.min_eq_left (by omega)]
end Go.Proofs.Ytojfeldafbabeaa
