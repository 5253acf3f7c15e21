/- Walks: Near, awake. -/
import Derived.Test.YthljjllcdocfiaaE1
set_option linter.unusedVariables false
set_option linter.unusedSimpArgs false
set_option linter.unnecessarySimpa false
namespace Go.Proofs.Ythljjllcdocfiaa
open Go Go.RowKit Go.MapKept

def nearC (c : Cp) : Cp := (c.1 % 5, c.2.1 % 7, c.2.2 % 16)
def nearL (l : List Cp) : List Cp := l.map nearC
def InC (c : Cp) : Prop := In64 c.1 ∧ In64 c.2.1 ∧ In64 c.2.2
theorem near_take {l : List Cp} {k : Nat} {c : Cp} (h : l[k]? = some c) : nearL (l.take (k + 1)) = nearL (l.take k) ++ [nearC c] := by
  unfold nearL
  rw [List.take_add_one, h]
  simp
theorem near_len (l : List Cp) (k : Nat) : (nearL (l.take k)).length ≤ k := by
  unfold nearL
  rw [List.length_map, List.length_take]
  omega
/-- one copy, laid in a block of its own -/
def Vn (wr : World) (x : Cp) (u : Value) (w : World) : Prop := ∃ bx, u = .slice (some ⟨bx, 0, none⟩) 1 1 ∧ Rd eC w u [x] ∧ Below wr.heap.size wr w
theorem Vn.stable (wr : World) (x : Cp) (u : Value) : Stable (Vn wr x u) := by
  rintro wa wb ⟨bx, h1, h2, h3⟩ hb
  exact ⟨bx, h1, h2.keep hb, h3.trans (hb.mono h3.size)⟩
theorem Vn.below {wr w : World} {x : Cp} {u : Value} (h : Vn wr x u w) : Below wr.heap.size wr w := by
  obtain ⟨bx, h1, h2, h3⟩ := h
  exact h3
theorem Vn.start {wr w : World} {x : Cp} (h : Below wr.heap.size wr w) : Vn wr x (.slice (some ⟨w.heap.size, 0, none⟩) 1 1) (w.alloc (.cells #[.int .i64 x.1, .int .i64 x.2.1, .int .i64 x.2.2] 44)) :=
  ⟨_, rfl, Rd.new (E := eC) w [x] (by simp) 44, h.alloc h.size _⟩
set_option maxHeartbeats 4000000 in
set_option maxRecDepth 20000 in
theorem near_any (v : Value) (l : List Cp) (w : World) (h : Rd eC w v l) (h64 : ∀ c ∈ l, InC c) (hl : l.length ≤ 1000) : Calls Try.prog 13 #[v] w (IsCps w (nearL l)) := by
  obtain ⟨a, cap, rfl, hlen⟩ := h.open
  have H := Lib.hid h
  have H64 := Lib.hid h64
  obtain ⟨n, hn⟩ : ∃ n, l.length = n := ⟨_, rfl⟩
  have HN := Lib.hid hn
  rw [hn] at hlen hl ⊢
  clear h hn h64
  go_enter Try.func13, Try.ntmps13
  go_wp2_with fail
  go_loopw [3, 4] (fun x y wr => ∃ (k : Nat) (p : Option Addr) (c : Nat), k ≤ n ∧ y = .int .i64 k ∧ x = .slice p k c ∧ Hid ((nearL (l.take k)).length = k) ∧ Hid (Ow eC 44 w wr (.slice p k c) (nearL (l.take k)))) (fun _ y _ => n - (intOf y).toNat)
  case atStart => exact ⟨0, none, 0, by omega, rfl, rfl, Lib.hid rfl, Lib.hid (Ow.start 44 w)⟩
  case round =>
    rename World => wr
    obtain ⟨k, p, c, hk, rfl, rfl, HKL, HO⟩ := hrel
    by_cases hkn : k < n
    · obtain ⟨x, hx⟩ : ∃ x, l[k]? = some x := ⟨l[k]'(by rw [HN.out]; exact hkn), by simp⟩
      have HR := H.out.below HO.out.below (Nat.le_refl _)
      rw [HN.out] at HR
      obtain ⟨b, off, rfl, hb, c0, c1, c2⟩ := HR.cp hx
      have hi := H64.out x (List.mem_of_getElem? hx)
      have HS := Lib.hid (near_take hx)
      obtain ⟨f, d, t⟩ := x
      simp only at c0 c1 c2
      unfold InC In64 at hi
      simp only at hi
      have W1 := fun wg => Lib.hid (within_any f 5 wg (by omega) (by omega) hi.1.1 hi.1.2)
      have W2 := fun wg => Lib.hid (within_any d 7 wg (by omega) (by omega) hi.2.1.1 hi.2.1.2)
      have W3 := fun wg => Lib.hid (within_any t 16 wg (by omega) (by omega) hi.2.2.1 hi.2.2.2)
      have HS2 := Lib.hid (show nearL (l.take (k + 1)) = nearL (l.take k) ++ [(f % 5, d % 7, t % 16)] from HS.out)
      generalize f % 5 = f' at *
      generalize d % 7 = d' at *
      generalize t % 16 = t' at *
      clear hx hi HR
      go_wp2_with fail
      refine wp_region_late_tail (Below wr.heap.size wr) 20 21 (by kernel_rfl) ?_ (fun wa wb h1 h2 => h1.trans (h2.mono h1.size)) (Below.refl _ _) ?_
      · kernel_rfl
      simp only [List.take_succ_cons, List.take_zero, List.drop_succ_cons, List.drop_zero]
      repeat first
               | (apply bRow_plain
                  · exact rfl
                  · intro wg hg
                    ((have x0 := (hg.cell (p := ⟨b, off + k * 3, none⟩) hb).trans c0; have x1 := (hg.cell (p := ⟨b, off + k * 3 + 1, none⟩) hb).trans c1; have x2 := (hg.cell (p := ⟨b, off + k * 3 + 2, none⟩) hb).trans c2))
                    go_simp
                    first
                      | exact rfl
                      | exact Below.refl _ _
                      | exact ⟨Below.refl _ _, rfl⟩
                      | ((first
| ((with_reducible refine (W1 _).out.mono ?_); rintro e w' ⟨rfl, rfl⟩; exact ⟨rfl, Below.refl _ _⟩)
| ((with_reducible refine (W2 _).out.mono ?_); rintro e w' ⟨rfl, rfl⟩; exact ⟨rfl, Below.refl _ _⟩)
| ((with_reducible refine (W3 _).out.mono ?_); rintro e w' ⟨rfl, rfl⟩; exact ⟨rfl, Below.refl _ _⟩)))
                  intro K hK
                  go_simp
                  refine hK _ ?_
                  clear hK K)
               | (apply bRow_step
                  · go_simp; done
                  · intro wg hg
                    ((have x0 := (hg.cell (p := ⟨b, off + k * 3, none⟩) hb).trans c0; have x1 := (hg.cell (p := ⟨b, off + k * 3 + 1, none⟩) hb).trans c1; have x2 := (hg.cell (p := ⟨b, off + k * 3 + 2, none⟩) hb).trans c2))
                    go_simp
                    first
                      | exact rfl
                      | exact Below.refl _ _
                      | exact ⟨Below.refl _ _, rfl⟩
                      | ((first
| ((with_reducible refine (W1 _).out.mono ?_); rintro e w' ⟨rfl, rfl⟩; exact ⟨rfl, Below.refl _ _⟩)
| ((with_reducible refine (W2 _).out.mono ?_); rintro e w' ⟨rfl, rfl⟩; exact ⟨rfl, Below.refl _ _⟩)
| ((with_reducible refine (W3 _).out.mono ?_); rintro e w' ⟨rfl, rfl⟩; exact ⟨rfl, Below.refl _ _⟩)))
                  intro K hK
                  go_simp
                  refine hK _ ?_
                  clear hK K)
               | (apply bRow_not
                  · go_simp; done
                  intro K hK
                  go_simp
                  refine hK _ ?_
                  clear hK K)
      refine bRow_nil ?_
      refine sRow_step (Vn wr (f', d', t')) rfl (Vn.stable wr _) (fun u w h => h.below) ?_ ?_
      · intro wg hg
        go_simp
        exact Vn.start hg
      rintro u ⟨wz, bx, rfl, -⟩ K hK
      go_simp
      refine hK _ ?_
      clear hK K
      refine sRow_nil ?_
      rintro w7 ⟨bx2, -, h2, h3⟩
      have HO7 := Lib.hid (HO.out.grow h3)
      refine wpList_more elt22 (E := eC) (l := nearL (l.take k)) (m := [(f', d', t')]) _ _ rfl rfl rfl rfl HO7.out h2 (by rw [HKL.out]; simp; omega) ?_
      intro p3 c3 w8 HO8 HG8
      rw [HKL.out] at HO8 HG8 ⊢
      clear h2 h3 HG8
      go_wp2_with fail
      go_roundw
      case rel => exact ⟨k + 1, p3, c3, by omega, by go_num, rfl, Lib.hid (by rw [HS2.out, List.length_append, HKL.out]; rfl), Lib.hid (by rw [HS2.out]; exact HO8.out)⟩
      case measure => simp [intOf]; omega
    · obtain rfl : k = n := by omega
      have HF := Lib.hid (show nearL (l.take k) = nearL l by rw [← HN.out, List.take_length])
      rw [HF.out] at HO HKL
      go_wp2_with fail
      go_ret
      refine ⟨p, c, by rw [HKL.out]; rfl, ?_⟩
      rw [HKL.out]
      exact HO.out

def l0 : List Cp := [(0, 5, 1), (1, 6, 1), (2, 7, 1)]
theorem marg0 : margF 2 1 l0 = (1, 0) := by decide +kernel
theorem cuts0 : cutsF 2 1 l0 = ([[5, 6], [5, 7], [6, 7]], 0) := by decide +kernel
theorem weak0 : weakF 2 1 l0 [[5], [6, 7]] = ([1], 0) := by decide +kernel
theorem surv1 : survF 2 1 l0 [5] = true := by decide +kernel
theorem surv2 : survF 2 1 l0 [5, 7] = false := by decide +kernel
end Go.Proofs.Ythljjllcdocfiaa
