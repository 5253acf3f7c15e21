/- The walk of natural.Mul. -/
import Derived.Test.YtgnmolleaengaaaGreatNb
import Derived.Laws.MakeOwn
import Derived.Laws.OwnMore
set_option linter.unusedVariables false
set_option linter.unusedSimpArgs false
set_option linter.unnecessarySimpa false
namespace Go.Proofs.YtgnmolleaengaaaGreat
open Go Go.RowKit

def arrU (l : List Nat) : Array Value := (l.map fun x : Nat => Value.int .u32 (x : Int)).toArray
theorem arrU_get (l : List Nat) (i : Nat) : (arrU l)[i]? = (l[i]?).map fun x : Nat => Value.int .u32 (x : Int) := by simp [arrU]
theorem arrU_set (l : List Nat) (i x : Nat) : (arrU l).setIfInBounds i (.int .u32 (x : Int)) = arrU (l.set i x) := by
  unfold arrU
  simp [List.map_set]
theorem made_arrU (n : Nat) : madeCells #[Value.int .u32 0] n = arrU (List.replicate n 0) := by
  apply Array.ext'
  rw [toList_madeCells_one]
  simp [arrU]

/-- a new row that is written -/
structure Mo (w : World) (g : Nat) (o : List Nat) (wr : World) : Prop where
  below : Below w.heap.size w wr
  row : Holds wr g (arrU o)
  new : w.heap.size ≤ g
theorem Mo.put {w : World} {g : Nat} {o : List Nat} {wr : World} (h : Mo w g o wr) (i x : Nat) : Mo w g (o.set i x) (wr.setCell ⟨g, i, none⟩ (.int .u32 (x : Int))) :=
  ⟨h.below.setCell (p := ⟨g, i, none⟩) h.new _, by rw [← arrU_set]; exact h.row.set _ _, h.new⟩
theorem Mo.at {w : World} {g : Nat} {o : List Nat} {wr : World} (h : Mo w g o wr) {i : Nat} (hi : i < o.length) : wr.cell? ⟨g, i, none⟩ = some (.int .u32 ((o.getD i 0 : Nat) : Int)) ∧ wr.frozen? ⟨g, i, none⟩ = false := by
  refine ⟨h.row.cell _ _ ?_, h.row.thaw _⟩
  rw [arrU_get]
  simp [hi]
theorem Mo.rd {w : World} {g : Nat} {o : List Nat} {wr : World} (h : Mo w g o wr) (hl : o.length ≤ 1000000) : Rd eU wr (.slice (some ⟨g, 0, none⟩) o.length o.length) o := by
  refine ⟨_, _, rfl, ⟨Nat.le_refl _, by omega⟩, .inr ⟨g, 0, rfl, h.row.lt, fun j u hu => ?_⟩⟩
  have hj : j < o.length := by have := (List.getElem?_eq_some_iff.1 hu).1; rw [flat_len] at this; simpa [eU] using this
  rw [Nat.zero_add, (h.at hj).1, ← hu]
  have := flat_get (E := eU) o j (o.getD j 0) 0 (by simp [hj]) (by decide)
  rw [show j * eU.k + 0 = j from Nat.mul_one j] at this
  rw [this]
  rfl

section
variable {ops : Array Oper} {rest : List Oper} {o : Oper} {a : Act} {Q : Exit → Act → World → Prop} {w : World}
theorem wp_make29 (x y : Operand) (hg : o.guard = none) (hop : o.op = Op.makeSlice 25 x y) {n : Nat} (hx : a.eval x = .int .i64 n) (hy : a.eval y = .int .i64 n) (hn : n ≤ 2000)
    (hK : ∀ w', Hid (Mo w w.heap.size (List.replicate n 0) w') → wpList Tryz.prog ops Q rest (a.put o.dst (.slice (some ⟨w.heap.size, 0, none⟩) n n)) w') : wpList Tryz.prog ops Q (o :: rest) a w := by
  obtain ⟨i, hi, hz0, hz1, hz2⟩ := info_parts info76
  have h := run_makeSlice (P := Tryz.prog) w 25 94 i (.int .u32 0) elt29.und hi hz0 .i64 .i64 n n (by omega) (by omega) (by rw [hz1]; omega) (by rw [hz2]; omega) (by omega)
  rw [hz1] at h
  simp only [Int.toNat_natCast, Nat.mul_one, Value.cells] at h
  refine wpList_plain hg fun K' hK' => ?_
  unfold Oper.wp
  simp only [execOp, hop, hx, hy, Sem.run_bind, h, Result.andThen]
  refine hK' _ _ (hK _ ⟨below_alloc _ _, ?_, Nat.le_refl _⟩)
  rw [← made_arrU]
  exact Holds.new _ _ _
end

set_option maxRecDepth 20000 in
set_option maxHeartbeats 4000000 in
theorem mul_any {w : World} {v u : Value} {l m : List Nat} (h : Rd eU w v l) (h2 : Rd eU w u m) (hl : clen l ≤ 512) (hm : clen m ≤ 512) (hL : Lims l) (hM : Lims m) (hs : clen l + clen m ≤ 512) :
    Calls Tryz.prog 80 #[v, u] w fun e w' => ∃ r, e = .returned (.tuple #[r, .int .i64 0]) ∧ Rd eU w' r (mulL l m) ∧ Below w.heap.size w w' := by
  have HR := Lib.hid h
  have HR2 := Lib.hid h2
  obtain ⟨a, cap, rfl, hlen⟩ := h.open
  obtain ⟨a2, cap2, rfl, hlen2⟩ := h2.open
  obtain ⟨c, hc⟩ : ∃ c, clen l = c := ⟨_, rfl⟩
  obtain ⟨d, hd⟩ : ∃ c, clen m = c := ⟨_, rfl⟩
  have hcn := clen_le l
  have hdn := clen_le m
  obtain ⟨n, hn⟩ : ∃ n, l.length = n := ⟨_, rfl⟩
  obtain ⟨n2, hn2⟩ : ∃ n, m.length = n := ⟨_, rfl⟩
  rw [hn] at h hlen HR hcn ⊢
  rw [hn2] at h2 hlen2 HR2 hdn ⊢
  obtain ⟨k1, k2, -⟩ := h.caps
  obtain ⟨k3, k4, -⟩ := h2.caps
  have HL := Lib.hid hl
  have HM := Lib.hid hm
  rw [hc] at hl hs hcn
  rw [hd] at hm hs hdn
  have HS := Lib.hid (h.cut hc cap (by omega) k2)
  have HS2 := Lib.hid (h2.cut hd cap2 (by omega) k4)
  have HC := Lib.hid hc
  have HD := Lib.hid hd
  have HLL := Lib.hid hL.trim
  have HLM := Lib.hid hM.trim
  have q1 : (c : Int) ≤ (cap : Int) := by omega
  have q2 : (d : Int) ≤ (cap2 : Int) := by omega
  have hcd : c + d ≤ 2000 := by omega
  clear h h2 hn hn2 hc hd k1 k3 hL hM
  go_enter Tryz.func80, Tryz.ntmps80
  go_wp2_with (first
    | (go_at_call 98; (with_reducible refine (large_as HR.out HL.out).mono ?_); rintro e w1 ⟨rfl, rfl⟩)
    | (go_at_call 98; (with_reducible refine (large_as HR2.out HM.out).mono ?_); rintro e w1 ⟨rfl, rfl⟩))
  refine wp_region_grow (Below w.heap.size w) (by kernel_rfl) (by kernel_rfl) (Below.refl _ _).drew ?_
  repeat first
           | (apply gRow_plain
              · exact rfl
              · intro wg hg
                ((skip))
                go_simp
                first
                  | exact rfl
                  | exact hg
                  | exact ⟨hg, rfl⟩
                  | ((first
  | ((with_reducible refine (length_as (HR.out.keep hg) HC.out).mono ?_); rintro e w1 ⟨rfl, rfl⟩; exact ⟨rfl, hg⟩)
  | ((with_reducible refine (length_as (HR2.out.keep hg) HD.out).mono ?_); rintro e w1 ⟨rfl, rfl⟩; exact ⟨rfl, hg⟩)))
              intro K hK
              go_simp
              refine hK _ ?_
              clear hK K)
           | (apply gRow_step
              · go_simp; done
              · intro wg hg
                ((skip))
                go_simp
                first
                  | exact rfl
                  | exact hg
                  | exact ⟨hg, rfl⟩
                  | ((first
  | ((with_reducible refine (length_as (HR.out.keep hg) HC.out).mono ?_); rintro e w1 ⟨rfl, rfl⟩; exact ⟨rfl, hg⟩)
  | ((with_reducible refine (length_as (HR2.out.keep hg) HD.out).mono ?_); rintro e w1 ⟨rfl, rfl⟩; exact ⟨rfl, hg⟩)))
              intro K hK
              go_simp
              refine hK _ ?_
              clear hK K)
           | (apply gRow_not
              · go_simp; done
              intro K hK
              go_simp
              refine hK _ ?_
              clear hK K)
  refine gRow_nil ?_
  intro w1 hb1
  have HB1 := Lib.hid hb1
  clear hb1
  obtain ⟨s, hsd⟩ : ∃ s, c + d = s := ⟨_, rfl⟩
  have hsi : (c : Int) + (d : Int) = (s : Int) := by omega
  rw [hsd] at hcd
  have HSD := Lib.hid hsd
  clear hsd
  go_wp2_with (first
    | (refine wp_make29 _ _ rfl rfl rfl rfl hcd ?_; intro w2 HO))
  clear hsi
  obtain ⟨g, hg⟩ : ∃ g, w1.heap.size = g := ⟨_, rfl⟩
  have HA := Lib.hid (HS.out.keep HB1.out)
  have HB := Lib.hid (HS2.out.keep HB1.out)
  rw [hg] at HO ⊢
  have HST := Lib.hid (show Lims (List.replicate s 0) ∧ (List.replicate s 0).length = s ∧ outr (trim m) ((trim l).drop 0) 0 (List.replicate s 0) = mul0 (trim l) (trim m) from
    ⟨fun x hx => by rw [(List.mem_replicate.1 hx).2]; omega, by simp, by unfold mul0; rw [trim_len, trim_len, HC.out, HD.out, HSD.out]; rfl⟩)
  have HG := Lib.hid hg
  clear hg HS HS2 HR HR2
  go_loopw [34] (fun z34 wr => ∃ (i : Nat) (o : List Nat), z34 = .int .i64 i ∧ i ≤ c ∧ Hid (Mo w1 g o wr) ∧ Hid (Lims o ∧ o.length = s ∧ outr (trim m) ((trim l).drop i) i o = mul0 (trim l) (trim m))) (fun z34 _ => c - (intOf z34).toNat)
  case atStart => exact ⟨0, _, rfl, Nat.zero_le _, HO, HST⟩
  case round =>
    rename World => wr
    obtain ⟨i, o, rfl, hi, HV, HP⟩ := hrel
    clear HO HST
    by_cases hic : i < c
    · obtain ⟨x, hx⟩ : ∃ x, (trim l)[i]? = some x := ⟨(trim l)[i]'(by rw [trim_len, HC.out]; exact hic), by simp⟩
      have HX := Lib.hid hx
      obtain ⟨b, off, rfl, hb, hcell⟩ := HA.out.limb hx
      have x0 := (HV.out.below.cell (p := ⟨b, off + i, none⟩) hb).trans hcell
      clear hx hcell
      go_wp2_with fail
      go_loopw [9, 41] (fun z9 z41 wq => ∃ (j k : Nat) (o' : List Nat), z9 = .int .u64 k ∧ z41 = .int .i64 j ∧ j ≤ d ∧ k < 4294967296 ∧ Hid (Mo w1 g o' wq) ∧ Hid (Lims o' ∧ o'.length = s ∧ inn x i ((trim m).drop j) j k o' = inn x i (trim m) 0 0 o)) (fun _ z41 _ => d - (intOf z41).toNat)
      case atStart => exact ⟨0, 0, o, rfl, rfl, Nat.zero_le _, by omega, HV, Lib.hid ⟨HP.out.1, HP.out.2.1, rfl⟩⟩
      case round =>
        rename World => wq
        obtain ⟨j, k, o', rfl, rfl, hj, hk, HW, HI⟩ := hrel
        by_cases hjd : j < d
        · obtain ⟨y, hy⟩ : ∃ x, (trim m)[j]? = some x := ⟨(trim m)[j]'(by rw [trim_len, HD.out]; exact hjd), by simp⟩
          have HY := Lib.hid hy
          obtain ⟨b2, off2, rfl, hb2, hcell2⟩ := HB.out.limb hy
          have y0 := (HW.out.below.cell (p := ⟨b2, off2 + j, none⟩) hb2).trans hcell2
          obtain ⟨t, ht⟩ : ∃ t, i + j = t := ⟨_, rfl⟩
          have hti : (i : Int) + (j : Int) = (t : Int) := by omega
          have hts : t < s := by have := HSD.out; omega
          obtain ⟨z, hz⟩ : ∃ z, o'.getD t 0 = z := ⟨_, rfl⟩
          obtain ⟨z0, zf⟩ := HW.out.at (i := t) (by rw [HI.out.2.1]; exact hts)
          rw [hz] at z0
          have hz32 : z < 4294967296 := by rw [← hz]; exact HI.out.1.get t
          have hx32 : x < 4294967296 := HLL.out x (List.mem_of_getElem? HX.out)
          have hy32 : y < 4294967296 := HLM.out y (List.mem_of_getElem? HY.out)
          obtain ⟨P, hP⟩ : ∃ P, x * y = P := ⟨_, rfl⟩
          have hPb : P ≤ 18446744065119617025 := by rw [← hP]; exact Nat.le_trans (Nat.mul_le_mul (show x ≤ 4294967295 by omega) (show y ≤ 4294967295 by omega)) (by decide)
          have hPi : (x : Int) * (y : Int) = (P : Int) := by rw [← hP]; simp
          have htl : (t : Int) < (s : Int) := by omega
          clear hy hcell2
          go_wp2_with fail
          go_roundw
          case rel =>
            refine ⟨j + 1, (k + (P + z)) / 4294967296, o'.set t ((k + (P + z)) % 4294967296), ?_, by go_num, by omega, by omega, Lib.hid ?_, Lib.hid ⟨HI.out.1.set t (Nat.mod_lt _ (by omega)), by rw [List.length_set]; exact HI.out.2.1, ?_⟩⟩
            · rw [show ((((k + (P + z)) / 4294967296 : Nat)) : Int) = ((k : Int) + ((P : Int) + (z : Int))) / 4294967296 by omega]
            · have := HW.out.put t ((k + (P + z)) % 4294967296)
              rw [show ((((k + (P + z)) % 4294967296 : Nat)) : Int) = ((k : Int) + ((P : Int) + (z : Int))) % 4294967296 by omega] at this
              exact this
            · have hjl : j < (trim m).length := by rw [trim_len, HD.out]; exact hjd
              have hgy : (trim m)[j] = y := by have := HY.out; rw [List.getElem?_eq_getElem hjl] at this; exact Option.some.inj this
              have h3 := HI.out.2.2
              rw [List.drop_eq_getElem_cons hjl, hgy, inn, ht, hP, hz] at h3
              exact h3
          case measure => simp [intOf]; omega
        · obtain rfl : j = d := by omega
          obtain ⟨t, ht⟩ : ∃ t, i + j = t := ⟨_, rfl⟩
          have hti : (i : Int) + (j : Int) = (t : Int) := by omega
          have hts : t < s := by have := HSD.out; omega
          obtain ⟨z0, zf⟩ := HW.out.at (i := t) (by rw [HI.out.2.1]; exact hts)
          have htl : (t : Int) < (s : Int) := by omega
          have HT := Lib.hid ht
          clear ht
          go_wp2_with fail
          go_roundw
          case rel =>
            refine ⟨i + 1, o'.set t k, by go_num, by omega, Lib.hid (HW.out.put t k), Lib.hid ⟨HI.out.1.set t hk, by rw [List.length_set]; exact HI.out.2.1, ?_⟩⟩
            have hil : i < (trim l).length := by rw [trim_len, HC.out]; exact hic
            have hgx : (trim l)[i] = x := by have := HX.out; rw [List.getElem?_eq_getElem hil] at this; exact Option.some.inj this
            have h3 := HP.out.2.2
            have h4 := HI.out.2.2
            have hml : (trim m).length = j := by rw [trim_len, HD.out]
            rw [List.drop_of_length_le (by omega), inn] at h4
            rw [List.drop_eq_getElem_cons hil, hgx, outr, ← h4, hml, HT.out, Nat.mod_eq_of_lt hk] at h3
            exact h3
          case measure => simp [intOf]; omega
    · obtain rfl : i = c := by omega
      have HO := Lib.hid (show o = mul0 (trim l) (trim m) by
        have h3 := HP.out.2.2
        rw [List.drop_of_length_le (by rw [trim_len, HC.out]; exact Nat.le_refl _), outr] at h3
        exact h3)
      have HRD := HV.out.rd (by rw [HP.out.2.1]; omega)
      rw [HP.out.2.1] at HRD
      have HRD := Lib.hid HRD
      have hcl : clen o ≤ 512 := by have := clen_le o; rw [HP.out.2.1] at this; have := HSD.out; omega
      have HCL := Lib.hid hcl
      clear hcl
      go_wp2_with (first
        | (go_at_call 100; (with_reducible refine (sized_any HRD.out HCL.out).mono ?_); rintro e w5 ⟨u, rfl, hu, rfl⟩; have HU := Lib.hid hu; clear hu))
      go_ret2
      refine ⟨_, rfl, ?_, HB1.out.trans (HV.out.below.mono HB1.out.size)⟩
      have := HU.out
      rw [HO.out] at this
      exact this
end Go.Proofs.YtgnmolleaengaaaGreat
