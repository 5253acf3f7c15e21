/- The walks of the reference's product of naturals. -/
import Derived.Test.YtgnmolleaengaaaGreatNk
import Derived.Test.YtgnmolleaengaaaGreatNc
set_option linter.unusedVariables false
set_option linter.unusedSimpArgs false
set_option linter.unnecessarySimpa false
namespace Go.Proofs.YtgnmolleaengaaaGreat
open Go Go.RowKit

set_option maxRecDepth 20000 in
set_option maxHeartbeats 4000000 in
theorem rtimes_any {w : World} {v u : Value} {l m : List Nat} (h : Rd eU w v l) (h2 : Rd eU w u m) (hs : l.length + m.length ≤ 512) (hL : Lims l) (hM : Lims m) :
    Calls Tryz.prog 113 #[v, u] w (SlPost w (trim (mul0 l m))) := by
  have HR := Lib.hid h
  have HR2 := Lib.hid h2
  obtain ⟨a, cap, rfl, hlen⟩ := h.open
  obtain ⟨a2, cap2, rfl, hlen2⟩ := h2.open
  obtain ⟨c, hc⟩ : ∃ n, l.length = n := ⟨_, rfl⟩
  obtain ⟨d, hd⟩ : ∃ n, m.length = n := ⟨_, rfl⟩
  have HC := Lib.hid hc
  have HD := Lib.hid hd
  have HLL := Lib.hid hL
  have HLM := Lib.hid hM
  rw [hc] at h hlen HR hs ⊢
  rw [hd] at h2 hlen2 HR2 hs ⊢
  obtain ⟨s, hsd⟩ : ∃ s, c + d = s := ⟨_, rfl⟩
  have hsi : (c : Int) + (d : Int) = (s : Int) := by omega
  have hcd : s ≤ 2000 := by omega
  have HSD := Lib.hid hsd
  have hsb : s ≤ 512 := by omega
  clear h h2 hc hd hL hM hsd
  go_enter Tryz.func113, Tryz.ntmps113
  go_wp2_with (refine wp_make29 _ _ rfl rfl rfl rfl hcd ?_; intro w2 HO)
  clear hsi
  obtain ⟨g, hg⟩ : ∃ g, w.heap.size = g := ⟨_, rfl⟩
  rw [hg] at HO ⊢
  have HST := Lib.hid (show Lims (List.replicate s 0) ∧ (List.replicate s 0).length = s ∧ outr m (l.drop 0) 0 (List.replicate s 0) = mul0 l m from
    ⟨fun x hx => by rw [(List.mem_replicate.1 hx).2]; omega, by simp, by unfold mul0; rw [HC.out, HD.out, HSD.out]; rfl⟩)
  have HG := Lib.hid hg
  clear hg
  go_loopw [6] (fun z34 wr => ∃ (i : Nat) (o : List Nat), z34 = .int .i64 i ∧ i ≤ c ∧ Hid (Mo w g o wr) ∧ Hid (Lims o ∧ o.length = s ∧ outr m (l.drop i) i o = mul0 l m)) (fun z34 _ => c - (intOf z34).toNat)
  case atStart => exact ⟨0, _, rfl, Nat.zero_le _, HO, HST⟩
  case round =>
    rename World => wr
    obtain ⟨i, o, rfl, hi, HV, HP⟩ := hrel
    clear HO HST
    by_cases hic : i < c
    · obtain ⟨x, hx⟩ : ∃ x, l[i]? = some x := ⟨l[i]'(by have := HC.out; omega), by simp⟩
      have HX := Lib.hid hx
      obtain ⟨b, off, rfl, hb, hcell⟩ := HR.out.limb hx
      have HXC := Lib.hid hcell
      have HXB := Lib.hid hb
      clear hx hcell hb
      go_wp2_with fail
      go_loopw [7, 8] (fun z9 z41 wq => ∃ (j k : Nat) (o' : List Nat), z9 = .int .u64 k ∧ z41 = .int .i64 j ∧ j ≤ d ∧ k < 4294967296 ∧ Hid (Mo w g o' wq) ∧ Hid (Lims o' ∧ o'.length = s ∧ inn x i (m.drop j) j k o' = inn x i m 0 0 o)) (fun _ z41 _ => d - (intOf z41).toNat)
      case atStart => exact ⟨0, 0, o, rfl, rfl, Nat.zero_le _, by omega, HV, Lib.hid ⟨HP.out.1, HP.out.2.1, rfl⟩⟩
      case round =>
        rename World => wq
        obtain ⟨j, k, o', rfl, rfl, hj, hk, HW, HI⟩ := hrel
        by_cases hjd : j < d
        · obtain ⟨y, hy⟩ : ∃ x, m[j]? = some x := ⟨m[j]'(by have := HD.out; omega), by simp⟩
          have HY := Lib.hid hy
          obtain ⟨b2, off2, rfl, hb2, hcell2⟩ := HR2.out.limb hy
          have x0 := (HW.out.below.cell (p := ⟨b, off + i, none⟩) HXB.out).trans HXC.out
          have y0 := (HW.out.below.cell (p := ⟨b2, off2 + j, none⟩) hb2).trans hcell2
          obtain ⟨t, ht⟩ : ∃ t, i + j = t := ⟨_, rfl⟩
          have hti : (i : Int) + (j : Int) = (t : Int) := by omega
          have hts : t < s := by have := HSD.out; omega
          obtain ⟨z, hz⟩ : ∃ z, o'.getD t 0 = z := ⟨_, rfl⟩
          obtain ⟨z0, zf⟩ := HW.out.at (i := t) (by rw [HI.out.2.1]; exact hts)
          rw [hz] at z0
          have hz32 : z < 4294967296 := by rw [← hz]; exact HI.out.1.get t
          have hx32 : x < 4294967296 := HLL.out x (List.mem_of_getElem? HX.out)
          have hy32 : y < 4294967296 := HLM.out y (List.mem_of_getElem? HY.out)
          obtain ⟨P, hP⟩ : ∃ P, x * y = P := ⟨_, rfl⟩
          have hPb : P ≤ 18446744065119617025 := by rw [← hP]; exact Nat.le_trans (Nat.mul_le_mul (show x ≤ 4294967295 by omega) (show y ≤ 4294967295 by omega)) (by decide)
          have hPi : (x : Int) * (y : Int) = (P : Int) := by rw [← hP]; simp
          obtain ⟨Q, hQ⟩ : ∃ Q, P + z = Q := ⟨_, rfl⟩
          have hQi : (P : Int) + (z : Int) = (Q : Int) := by omega
          obtain ⟨V, hV⟩ : ∃ V, Q + k = V := ⟨_, rfl⟩
          have hVi : (Q : Int) + (k : Int) = (V : Int) := by omega
          have wP : IntKind.u64.wrap (P : Int) = (P : Int) := IntWalk.u64_in _ (by omega)
          have wQ : IntKind.u64.wrap (Q : Int) = (Q : Int) := IntWalk.u64_in _ (by omega)
          have wV : IntKind.u64.wrap (V : Int) = (V : Int) := IntWalk.u64_in _ (by omega)
          have wT : IntKind.i64.wrap (t : Int) = (t : Int) := IntWalk.i64_in _ (by omega)
          have wx : IntKind.u64.wrap (x : Int) = (x : Int) := IntWalk.u64_in _ (by omega)
          have wy : IntKind.u64.wrap (y : Int) = (y : Int) := IntWalk.u64_in _ (by omega)
          have wz : IntKind.u64.wrap (z : Int) = (z : Int) := IntWalk.u64_in _ (by omega)
          have hvb : V ≤ 18446744073709551615 := by omega
          have HQV := Lib.hid (show k + (P + z) = V by omega)
          have HPP := Lib.hid hP
          have HZZ := Lib.hid hz
          have HTT := Lib.hid ht
          have htl : (t : Int) < (s : Int) := by omega
          clear hy hcell2 hP hQ hV hz ht
          go_wp2_with fail
          go_quiet (fail)
          clear wP wQ wV wT wx wy wz
          go_wp2_with fail
          go_roundw
          case rel =>
            refine ⟨j + 1, V / 4294967296, o'.set t (V % 4294967296), ?_, by go_num, by omega, by omega, Lib.hid ?_, Lib.hid ⟨HI.out.1.set t (Nat.mod_lt _ (by omega)), by rw [List.length_set]; exact HI.out.2.1, ?_⟩⟩
            · rw [show (((V / 4294967296 : Nat)) : Int) = (V : Int) / 4294967296 by omega]
            · have hdr : Mo w g o' (wq.drewN nq) := ⟨below_drewN HW.out.below _, ⟨HW.out.row.lt, HW.out.row.cell, HW.out.row.thaw⟩, HW.out.new⟩
              have := hdr.put t (V % 4294967296)
              rw [show (((V % 4294967296 : Nat)) : Int) = (V : Int) % 4294967296 by omega] at this
              exact this
            · have hjl : j < m.length := by have := HD.out; omega
              have hgy : m[j] = y := by have := HY.out; rw [List.getElem?_eq_getElem hjl] at this; exact Option.some.inj this
              have h3 := HI.out.2.2
              rw [List.drop_eq_getElem_cons hjl, hgy, inn, HTT.out, HPP.out, HZZ.out, HQV.out] at h3
              exact h3
          case measure => simp [intOf]; omega
        · obtain rfl : j = d := by omega
          obtain ⟨t, ht⟩ : ∃ t, i + j = t := ⟨_, rfl⟩
          have hti : (i : Int) + (j : Int) = (t : Int) := by omega
          have hts : t < s := by have := HSD.out; omega
          obtain ⟨z0, zf⟩ := HW.out.at (i := t) (by rw [HI.out.2.1]; exact hts)
          have htl : (t : Int) < (s : Int) := by omega
          have HT := Lib.hid ht
          clear ht
          go_wp2_with fail
          go_roundw
          case rel =>
            refine ⟨i + 1, o'.set t k, by go_num, by omega, Lib.hid (HW.out.put t k), Lib.hid ⟨HI.out.1.set t hk, by rw [List.length_set]; exact HI.out.2.1, ?_⟩⟩
            have hil : i < l.length := by have := HC.out; omega
            have hgx : l[i] = x := by have := HX.out; rw [List.getElem?_eq_getElem hil] at this; exact Option.some.inj this
            have h3 := HP.out.2.2
            have h4 := HI.out.2.2
            have hml : m.length = j := HD.out
            rw [List.drop_of_length_le (by omega), inn] at h4
            rw [List.drop_eq_getElem_cons hil, hgx, outr, ← h4, hml, HT.out, Nat.mod_eq_of_lt hk] at h3
            exact h3
          case measure => simp [intOf]; omega
    · obtain rfl : i = c := by omega
      have HO := Lib.hid (show o = mul0 l m by
        have h3 := HP.out.2.2
        rw [List.drop_of_length_le (by rw [HC.out]; exact Nat.le_refl _), outr] at h3
        exact h3)
      have HRD := HV.out.rd (by rw [HP.out.2.1]; omega)
      rw [HP.out.2.1] at HRD
      have HRD := Lib.hid HRD
      have hcl : clen o ≤ 5000 := by have := clen_le o; rw [HP.out.2.1] at this; omega
      have HCL := Lib.hid hcl
      clear hcl
      go_wp2_with (go_at_call 51; (with_reducible refine (rtrim_any HRD.out HCL.out).mono ?_); rintro e w5 ⟨p, cp, rfl, ht, hb⟩; have HU := Lib.hid ht; have HB := Lib.hid (HV.out.below.trans (hb.mono HV.out.below.size)); clear ht hb)
      go_ret
      have hu := HU.out
      rw [HO.out] at hu ⊢
      exact ⟨_, _, rfl, hu, HB.out⟩
end Go.Proofs.YtgnmolleaengaaaGreat
