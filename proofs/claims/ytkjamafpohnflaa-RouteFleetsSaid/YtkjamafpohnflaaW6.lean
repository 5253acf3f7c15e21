/- The walk of Loads. -/
import Derived.Test.YtkjamafpohnflaaL3
set_option linter.unusedVariables false
set_option linter.unusedSimpArgs false
set_option linter.unnecessarySimpa false
namespace Go.Proofs.Ytkjamafpohnflaa
open Go Go.RowKit Go.Mem Go.Deep

/-- v is a slice that reads as the pairs of l -/
def PairsAt (w : World) (v : Value) (l : List (Int × Int)) : Prop := Seq w v 2 l.length (fun i => [.int .i64 (l.getD i (0, 0)).1, .int .i64 (l.getD i (0, 0)).2])
theorem PairsAt.below {B : Nat} {w w' : World} {v : Value} {l : List (Int × Int)} (h : PairsAt w v l) (hb : Below B w w') (hB : w.heap.size ≤ B) : PairsAt w' v l := Seq.below h hb hB
theorem PairsAt.keep {w w' : World} {v : Value} {l : List (Int × Int)} (h : PairsAt w v l) (hb : Below w.heap.size w w') : PairsAt w' v l := h.below hb (Nat.le_refl _)
theorem PairsAt.open {w : World} {v : Value} {l : List (Int × Int)} (h : PairsAt w v l) : ∃ a cap, v = .slice a l.length cap := by
  obtain ⟨a, cap, h1, _⟩ := h; exact ⟨a, cap, h1⟩
theorem PairsAt.cell {w : World} {a : Option Addr} {n cap : Nat} {l : List (Int × Int)} (h : PairsAt w (.slice a n cap) l) {i : Nat} (hi : i < l.length) {x y : Int} (he : l.getD i (0, 0) = (x, y)) :
    ∃ b off, a = some ⟨b, off, none⟩ ∧ b < w.heap.size ∧ w.cell? ⟨b, off + i * 2, none⟩ = some (.int .i64 x) ∧ w.cell? ⟨b, off + i * 2 + 1, none⟩ = some (.int .i64 y) := by
  obtain ⟨a', cap', hv, _, _, h2⟩ := h
  cases hv
  obtain ⟨b, off, ha, hb, hc⟩ := h2 i hi
  have c0 := hc 0 _ rfl
  have c1 := hc 1 _ rfl
  rw [he] at c0 c1
  exact ⟨b, off, ha, hb, c0, c1⟩
theorem getD_memP {l : List (Int × Int)} {k : Nat} (h : k < l.length) : l.getD k (0, 0) ∈ l := by
  rw [List.getD_eq_getElem?_getD, List.getElem?_eq_getElem h]
  exact List.getElem_mem h

/-- how many of the first k pairs have link j on their path -/
def ldTo (T : List Int) (ps : List (Int × Int)) : Nat → Nat → Nat
  | 0, _ => 0
  | k + 1, j => ldTo T ps k j + if pathS T (ps.getD k (0, 0)).1.toNat (ps.getD k (0, 0)).2.toNat j then 1 else 0
theorem ldTo_le (T : List Int) (ps : List (Int × Int)) : ∀ k j, ldTo T ps k j ≤ k
  | 0, _ => Nat.le_refl 0
  | k + 1, j => by have := ldTo_le T ps k j; unfold ldTo; split <;> omega
/-- the list of the loads -/
def loadsL (T : List Int) (ps : List (Int × Int)) : List Int := (List.range T.length).map fun j => (ldTo T ps ps.length j : Int)
theorem len_loads (T : List Int) (ps : List (Int × Int)) : (loadsL T ps).length = T.length := by simp [loadsL]
theorem loads_get {T : List Int} {ps : List (Int × Int)} {j : Nat} (h : j < T.length) : (loadsL T ps).getD j 0 = (ldTo T ps ps.length j : Int) := by
  unfold loadsL
  rw [List.getD_eq_getElem?_getD, List.getElem?_map, List.getElem?_range h]
  rfl

/-- one round of the loop over a path -/
structure Lst (wA : World) (cb n bk r : Nat) (S : Int → Bool) (base : Nat → Int) (cnt : Nat) (L : Int → Bool) (g : Nat → Int) (wr : World) : Prop where
  rg : RgAt wr bk r 200 S L cnt
  row : wr.rowIs cb 3 n (fun j => .int .i64 (g j))
  says : ∀ j : Nat, j < n → g j = base j + (if S j && !L j then 1 else 0)
  below : Below cb wA wr
  ne : cb < bk ∧ cb < r ∧ bk < r
theorem rowIs_only {w w' : World} {S : List Nat} {b n t : Nat} {f : Nat → Value} (h : w.rowIs b t n f) (ho : Only S w w') (hb : b ∉ S) : w'.rowIs b t n f := h.of_block (ho.block b h.lt hb)
namespace Lst
variable {wA wr w' : World} {cb n bk r cnt cnt' : Nat} {S L : Int → Bool} {base g : Nat → Int} {x : Int}
theorem row' (h : Lst wA cb n bk r S base cnt L g wr) (ho : Only [r] wr w') : w'.rowIs cb 3 n (fun j => .int .i64 (g j)) := rowIs_only h.row ho (by have := h.ne; simp; omega)
theorem go (h : Lst wA cb n bk r S base cnt L g wr) {y : Nat} (hr : RgAt w' bk r 200 S (fun z => L z && !(z == (y : Int))) cnt') (ho : Only [r] wr w') (hx : L y = true) : Lst wA cb n bk r S base cnt' (fun z => L z && !(z == (y : Int))) (fun j => if j = y then g y + 1 else g j) (w'.setCell ⟨cb, y, none⟩ (.int .i64 (g y + 1))) := by
  have ho2 : Only [cb] w' (w'.setCell ⟨cb, y, none⟩ (.int .i64 (g y + 1))) := (Only.refl [cb] w').setCell (.inl (by simp)) y _
  have hne := h.ne
  refine ⟨hr.only ho2 (by simp; omega) (by simp; omega), ((h.row' ho).set y (.int .i64 (g y + 1))).congr (fun j hj => ?_), fun j hj => ?_, ?_, h.ne⟩
  · by_cases e : j = y <;> simp [e]
  · by_cases e : j = y
    · subst e
      have hs := h.rg.sub hx
      rw [if_pos rfl, h.says j hj]
      simp [hs, hx]
    · rw [if_neg e, h.says j hj]
      have : ((j : Int) == (y : Int)) = false := by simp; omega
      rw [this]; simp
  · have b1 : Below cb wr w' := ho.below (fun s hs => by rw [List.mem_singleton.1 hs]; omega) (by have := h.row.lt; omega)
    exact (h.below.trans b1).setCell (p := ⟨cb, y, none⟩) (Nat.le_refl _) _
end Lst

def LoadsIs (w : World) (L : List Int) (n : Nat) (e : Ending) (w' : World) : Prop := ∃ a cap, e = .returned (.tuple #[.slice a n cap, .int .i64 0]) ∧ IntsAt w' (.slice a n cap) L ∧ Below w.heap.size w w'

set_option maxRecDepth 20000 in
set_option maxHeartbeats 8000000 in
theorem loads_ok (v u : Value) (T : List Int) (ps : List (Int × Int)) (n : Nat) (w : World) (h : IntsAt w v T) (h2 : PairsAt w u ps) (ho : Tree.Ok T) (hTL : T.length = n) (hps : ∀ p ∈ ps, 0 ≤ p.1 ∧ p.1 < n ∧ 0 ≤ p.2 ∧ p.2 < n) (hm : ps.length ≤ 1000) : Calls Try.prog 27 #[v, u] w (LoadsIs w (loadsL T ps) n) := by
  obtain ⟨a, cap, rfl, hlen⟩ := h.open
  obtain ⟨a2, cap2, rfl⟩ := h2.open
  have HO := Lib.hid ho
  have HTL := Lib.hid hTL
  have HP := Lib.hid hps
  obtain ⟨m, hm'⟩ : ∃ m, ps.length = m := ⟨_, rfl⟩
  have HM := Lib.hid hm'
  have hn64 : n ≤ 64 := by have := ho.2.1; omega
  rw [hm'] at hm h2 ⊢
  rw [hTL] at hlen h ⊢
  have H := Lib.hid h
  have H2 := Lib.hid h2
  have K23 := fun w (h : IntsAt w (.slice a n cap) T) => Lib.hid (show Calls Try.prog 23 #[.slice a n cap] w (fun e w' => e = .returned (.int .i64 0) ∧ w = w') from (code_ok ((Tree.okB_iff T).2 HO.out)) ▸ check23_any _ T w h)
  have hmk := run_make_row' (P := Try.prog) 22 3 (.int .i64 0) 8 Try.underlying22 info3 rfl .i64 .i64 n (by omega) (by omega)
  clear h h2 ho hTL hps hm'
  go_enter Try.func27, Try.ntmps27
  go_wp2_with fail
  go_loopw [16] (fun s wr => ∃ k : Nat, k ≤ m ∧ s = .int .i64 k ∧ Hid (Below w.heap.size w wr)) (fun s _ => m - (intOf s).toNat)
  case atStart => exact ⟨0, by omega, rfl, Below.refl _ _⟩
  case round =>
    rename World => wr
    obtain ⟨k, hk, rfl, HB⟩ := hrel
    by_cases hkm : k < m
    · obtain ⟨x, y, hxy⟩ : ∃ x y, ps.getD k (0, 0) = (x, y) := ⟨_, _, rfl⟩
      obtain ⟨b, off, rfl, hb, c0, c1⟩ := (H2.out.below HB.out (Nat.le_refl _)).cell (i := k) (by rw [HM.out]; exact hkm) hxy
      have hv := HP.out _ (getD_memP (l := ps) (k := k) (by rw [HM.out]; exact hkm))
      rw [hxy] at hv
      have HC := Lib.hid (show checkF T [x, y] = 0 from checkF_ok ((Tree.okB_iff T).2 HO.out) (by intro z hz; rw [HTL.out]; simp at hz; rcases hz with rfl | rfl <;> omega))
      have K0 := fun w (u : Value) (h : IntsAt w (.slice a n cap) T) (h2 : IntsAt w u [x, y]) => Lib.hid (show Calls Try.prog 29 #[.slice a n cap, u] w (fun e w' => e = .returned (.int .i64 0) ∧ w = w') from HC.out ▸ chk_any _ u T [x, y] w h h2)
      have HB1 := Lib.hid (HB.out.alloc HB.out.size (.cells #[.int .i64 x, .int .i64 y] 47))
      have HB2 := Lib.hid (HB1.out.alloc HB1.out.size (.cells #[.int .i64 x, .int .i64 y] 3))
      have HN := Lib.hid (show IntsAt ((wr.alloc (.cells #[.int .i64 x, .int .i64 y] 47)).alloc (.cells #[.int .i64 x, .int .i64 y] 3)) (.slice (some ⟨wr.heap.size + 1, 0, none⟩) 2 2) [x, y] by have e := IntsAt.new (wr.alloc (.cells #[.int .i64 x, .int .i64 y] 47)) [x, y] (by simp) 3; rw [show (wr.alloc (.cells #[.int .i64 x, .int .i64 y] 47)).heap.size = wr.heap.size + 1 by simp] at e; exact e)
      have HT := Lib.hid (H.out.below HB2.out (Nat.le_refl _))
      clear hxy hv
      go_wp2_with (first
        | (go_at_call 29; (with_reducible refine (K0 _ _ HT.out HN.out).out.mono ?_); rintro e w0 ⟨rfl, rfl⟩))
      go_roundw
      case rel => exact ⟨k + 1, by omega, by go_num, HB2⟩
      case measure => simp [intOf]; omega
    · have HT := Lib.hid (H.out.below HB.out (Nat.le_refl _))
      go_wp2_with (first
        | (go_at_call 23; (with_reducible refine (K23 _ HT.out).out.mono ?_); rintro e w0 ⟨rfl, rfl⟩))
      have HA := Lib.hid HB.out
      obtain ⟨cb, hcb⟩ : ∃ x, wr.heap.size = x := ⟨_, rfl⟩
      rw [hcb]
      have HR0 := Lib.hid ((hcb ▸ World.rowIs_made wr (.int .i64 0) n 3 : (wr.alloc (.cells (madeCells #[.int .i64 0] n) 3)).rowIs cb 3 n (fun _ => .int .i64 0)).congr (g := fun j => .int .i64 (ldTo T ps 0 j)) (fun i _ => rfl))
      have HBc := Lib.hid (show Below cb wr (wr.alloc (.cells (madeCells #[.int .i64 0] n) 3)) from hcb ▸ below_alloc wr _)
      have HLE := Lib.hid (Nat.le_of_eq hcb)
      have HLE2 := Lib.hid (show w.heap.size ≤ cb by rw [← hcb]; exact HB.out.size)
      generalize wr.alloc (.cells (madeCells #[.int .i64 0] n) 3) = w3 at *
      clear hcb hmk K23 HB
      go_loopw [41] (fun s wq => ∃ k : Nat, k ≤ m ∧ s = .int .i64 k ∧ Hid (wq.rowIs cb 3 n (fun j => .int .i64 (ldTo T ps k j))) ∧ Hid (Below cb wr wq)) (fun s _ => m - (intOf s).toNat)
      case atStart => exact ⟨0, by omega, rfl, HR0, HBc⟩
      case round =>
        rename World => wq
        obtain ⟨k, hk, rfl, HR, HB⟩ := hrel
        clear HR0 HBc
        by_cases hkm : k < m
        · obtain ⟨x, y, hxy⟩ : ∃ x y, ps.getD k (0, 0) = (x, y) := ⟨_, _, rfl⟩
          obtain ⟨b, off, rfl, hb, c0, c1⟩ := (H2.out.below (HA.out.trans (HB.out.mono HLE2.out)) (Nat.le_refl _)).cell (i := k) (by rw [HM.out]; exact hkm) hxy
          have hv := HP.out _ (getD_memP (l := ps) (k := k) (by rw [HM.out]; exact hkm))
          rw [hxy] at hv
          obtain ⟨x, rfl⟩ : ∃ X : Nat, x = X := ⟨x.toNat, by omega⟩
          obtain ⟨y, rfl⟩ : ∃ X : Nat, y = X := ⟨y.toNat, by omega⟩
          have K32 := fun w (h : IntsAt w (.slice a n cap) T) => Lib.hid (path_any _ T x y w h HO.out (by rw [HTL.out]; omega) (by rw [HTL.out]; omega))
          have HT2 := Lib.hid (H.out.below ((HA.out.trans (HB.out.mono HLE2.out)).alloc (HA.out.trans (HB.out.mono HLE2.out)).size (.cells #[.int .i64 (x : Int), .int .i64 (y : Int)] 47)) (Nat.le_refl _))
          have hbase : Hid (∀ j : Nat, (ldTo T ps (k + 1) j : Int) = (ldTo T ps k j : Int) + (if pathS T x y j then 1 else 0)) := Lib.hid fun j => by
            show ((ldTo T ps k j + if pathS T (ps.getD k (0, 0)).1.toNat (ps.getD k (0, 0)).2.toNat j then 1 else 0 : Nat) : Int) = _
            rw [hxy]
            show ((ldTo T ps k j + if pathS T x y j then 1 else 0 : Nat) : Int) = _
            split <;> simp
          have HXN := Lib.hid (show x < n ∧ y < n by omega)
          have hqlt := HR.out.lt
          have hqs := HB.out.size
          obtain ⟨S, hS⟩ : ∃ S, pathS T x y = S := ⟨_, rfl⟩
          rw [hS] at hbase
          have HSS := Lib.hid hS
          clear hxy hv hS
          go_wp2_with (first
            | (go_at_call 32; (with_reducible refine (K32 _ HT2.out).out.mono ?_); rintro e w5 ⟨bk, rfl, hbk, hsk, hb5⟩; have HSK := Lib.hid (HSS.out ▸ hsk); have hbk2 := hsk.lt; have HR5 := Lib.hid ((HR.out.alloc (.cells #[.int .i64 (x : Int), .int .i64 (y : Int)] 47)).of_block (hb5.block cb (by simp; omega))); have HB5 := Lib.hid ((HB.out.alloc (by omega) (.cells #[.int .i64 (x : Int), .int .i64 (y : Int)] 47)).trans (hb5.mono (by simp; omega))); clear hsk)
            | (at_range; refine wpList_set_range rfl _ rfl rfl HSK.out ?_; intro w6 cnt0 HR6 hcnt0 HB6))
          obtain ⟨r, hr⟩ : ∃ r, w5.heap.size = r := ⟨_, rfl⟩
          rw [hr]
          rw [hr] at HR6 HB6
          have hcl5 := HR5.out.lt
          have hbkw : wq.heap.size ≤ bk := by have := hbk; simp at this; omega
          have HV0 := Lib.hid (show Lst wr cb n bk r S (fun j => (ldTo T ps k j : Int)) cnt0 S (fun j => (ldTo T ps k j : Int)) w6 from
            ⟨HR6.out, HR5.out.of_block (HB6.out.block cb (by omega)), fun j _ => by cases S j <;> simp, HB5.out.trans (HB6.out.mono (by omega)), by omega⟩)
          clear HR6 HB6 HR5 HB5 HSK hcnt0 hr K32 HT2 hb5
          go_frame
          go_loopw [13] (fun _ wi => ∃ cnt L g, Hid (Lst wr cb n bk r S (fun j => (ldTo T ps k j : Int)) cnt L g wi)) (fun _ wi => wi.rangeLeft bk r)
          case atStart => exact ⟨_, _, _, HV0⟩
          case round =>
            rename World => wi
            obtain ⟨cnt, L, g, HV⟩ := hrel
            clear HV0
            go_wp2_with (first
              | (at_next; refine wpList_set_next rfl _ rfl rfl HV.out.rg ?_ ?_))
            · intro hc0 hL0
              have HN2 := Lib.hid (HV.out.row.congr (g := fun j => .int .i64 (ldTo T ps (k + 1) j)) (fun j hj => by
                show Value.int .i64 (g j) = .int .i64 (ldTo T ps (k + 1) j : Int)
                rw [HV.out.says j hj, hbase.out j, hL0]
                cases S j <;> simp))
              clear hc0 hL0
              go_wp2_with fail
              go_roundw
              case rel => exact ⟨k + 1, by omega, by go_num, HN2, HV.out.below⟩
              case measure => simp [intOf]; omega
            · intro z wn cnt2 hwz hLz HRn hlt HOn hen
              obtain ⟨y2, hy2, hy3, -⟩ := (pathS_iff T HO.out (a := x) (b := y) (by rw [HTL.out]; exact HXN.out.1) (by rw [HTL.out]; exact HXN.out.2) z).1 (by rw [HSS.out]; exact HV.out.rg.sub hLz)
              subst hy2
              rw [HTL.out] at hy3
              have HV2 := Lib.hid (HV.out.go HRn.out HOn.out hLz)
              have hrow := HV.out.row' HOn.out
              obtain ⟨u0, hu0⟩ : ∃ u, g y2 = u := ⟨_, rfl⟩
              have hub : 0 ≤ u0 ∧ u0 ≤ 1001 := by
                have h1 := HV.out.says y2 hy3
                have h2 := ldTo_le T ps k y2
                rw [hu0] at h1
                split at h1 <;> omega
              have c5 : wn.cell? ⟨cb, y2, none⟩ = some (.int .i64 u0) := hu0 ▸ hrow.cell hy3
              have f5 := hrow.frozen y2
              rw [hu0] at HV2
              clear hrow hu0 hLz hwz
              go_wp2_with fail
              go_roundw
              case rel => exact ⟨_, _, _, HV2⟩
              case measure => rw [HV2.out.rg.left, HV.out.rg.left]; exact hlt
        · obtain rfl : k = m := by omega
          have HE := Lib.hid (show IntsAt wq (.slice (some ⟨cb, 0, none⟩) n n) (loadsL T ps) by
            have hl : (loadsL T ps).length = n := by rw [len_loads, HTL.out]
            refine ⟨_, n, by rw [len_ints, hl], by rw [len_ints, hl]; omega, by unfold maxLen; omega, by rw [len_ints, hl]; omega, .inr ⟨cb, 0, rfl, HR.out.lt, fun i hi => ?_⟩⟩
            rw [len_ints, hl] at hi
            rw [Nat.zero_add, HR.out.cell hi]
            have hi2 : i < (loadsL T ps).length := by omega
            have := loads_get (T := T) (ps := ps) (j := i) (by rw [HTL.out]; exact hi)
            rw [HM.out] at this
            simp [ints, hi2, List.getD_eq_getElem?_getD] at this ⊢
            exact this.symm)
          have HBE := Lib.hid (HA.out.trans (HB.out.mono HLE2.out))
          go_wp2_with fail
          go_ret2
          exact ⟨_, _, rfl, HE.out, HBE.out⟩
end Go.Proofs.Ytkjamafpohnflaa
