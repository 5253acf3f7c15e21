/- The walk of Schedule. -/
import Derived.Test.YtgnmolleaengaaaRh
set_option linter.unusedVariables false
set_option linter.unusedSimpArgs false
set_option linter.unnecessarySimpa false
namespace Go.Proofs.Ytgnmolleaengaaa
open Go Go.RowKit

def SchedPost (B qb : Nat) (slots : Int) (L : List En) (w : World) (e : Ending) (w' : World) : Prop :=
  ∃ a S' c a2 P' c2, e = .returned (.tuple #[.slice a S'.length c, .slice a2 P'.length c2]) ∧ (S'.Perm (schS (slotsL slots L) L) ∧ S'.Pairwise (fun x y => ltK y x = false)) ∧ (P'.Perm (schP (slotsL slots L) L) ∧ P'.Pairwise (fun x y => ltK y x = false)) ∧
    Rt eK 39 w' (.slice a S'.length c) S' ∧ Rt eK 39 w' (.slice a2 P'.length c2) P' ∧ Qp B qb slots (schL (slotsL slots L) L) w' ∧ Qt B w w'

/-- the state of the loop -/
structure Sc (B qb : Nat) (slots c0 : Int) (L : List En) (n : Nat) (w wr : World) (k : Nat) (c : Int) (v1 v2 : Value) (N1 N2 : Nat) : Prop where
  ec : c = cntL c0 (L.take k)
  e1 : N1 = (schS c0 (L.take k)).length
  e2 : N2 = (schP c0 (L.take k)).length
  two : Two w.heap.size (cut B w) wr v1 v2 (schS c0 (L.take k)) (schP c0 (L.take k))
  q : Qp B qb slots (schL c0 (L.take k) ++ L.drop k) wr
  t : Qt B w wr
theorem sch_len {L : List En} {n : Nat} (hn : L.length = n) (c0 : Int) (k : Nat) : (schL c0 (L.take k) ++ L.drop k).length = n := by
  rw [List.length_append, schL_len, List.length_take, List.length_drop]; omega
theorem Sc.next {B qb g cap : Nat} {slots c0 : Int} {L : List En} {n : Nat} {w W : World} {k : Nat} {c c' : Int} {v1 v2 : Value} {N1 N2 : Nat} {x : En} {r : Bool} {S' P' : List Ky} (hx : L[k]? = some x) (hec : c = cntL c0 (L.take k)) (hr : runOf c x = r) (hc' : cnt c x = c')
    (hS : S' = schS c0 (L.take k) ++ (if r && !x.run then [x.key] else [])) (hP : P' = schP c0 (L.take k) ++ (if !r && x.run then [x.key] else [])) (hN1 : N1 = S'.length) (hN2 : N2 = P'.length)
    (hT : Two w.heap.size (cut B w) W v1 v2 S' P') (hQ : QAt B qb g cap slots (schL c0 (L.take k) ++ L.drop k) n W) (ht : Qt B w W) (hB : B ≤ w.heap.size) :
    Sc B qb slots c0 L n w (W.setCell ⟨g, k * 9 + 7, none⟩ (.bool r)) (k + 1) c' v1 v2 N1 N2 := by
  subst hec hr
  have es : S' = schS c0 (L.take (k + 1)) := by rw [hS, take_snoc hx, schS_snoc]
  have ep : P' = schP c0 (L.take (k + 1)) := by rw [hP, take_snoc hx, schP_snoc]
  obtain ⟨r1, r2⟩ := row_step hx (c := c0) rfl
  subst es ep
  refine ⟨by rw [take_snoc hx, cntL_snoc, hc'], hN1, hN2, hT.store hQ.ty (by rw [cut_size hB]; exact hQ.base) _ _, ?_, ht.set (.inl hQ.ty) hQ.base _ _⟩
  have := (hQ.setRun (b := runOf (cntL c0 (L.take k)) x) r1).q
  rw [r2] at this
  exact this

theorem Two.other {B0 : Nat} {w0 w w' : World} {v1 v2 : Value} {S P : List Ky} (h : Two B0 w0 w v1 v2 S P) (hg : w.grownBy w' v1.ownBlock) : Ow eK 39 w0 w' v2 P :=
  ⟨h.o1.below.grown hg h.o1.below.size (fun k hk => (h.o1.row.lt k hk).1), owns_same h.o2.row fun k hk => hg.block k (h.o2.row.lt k hk).2 fun e => h.ne k e.symm hk, (fun t ht => by cases ht)⟩
theorem Rt.same {α : Type} {E : Enc α} {t : TypeId} {w w' : World} {v : Value} {l : List α} (h : Rt E t w v l) (hs : w.heap.size ≤ w'.heap.size) (hk : ∀ k, v.ownBlock = some k → w'.heap[k]? = w.heap[k]?) : Rt E t w' v l :=
  ⟨h.rd.same hs hk, fun k hk' => (h.ty k hk').same (hk k hk')⟩




set_option maxRecDepth 20000 in
set_option maxHeartbeats 4000000 in
theorem schedule_as {B qb : Nat} {slots : Int} {L : List En} {w : World} (h : Qp B qb slots L w) (hB : B ≤ w.heap.size) (hl : L.length ≤ 1000) (h1 : 0 ≤ slots) (h2 : slots ≤ 48) : Calls Try.prog 12 #[.pointer (some ⟨qb, 0, none⟩)] w (SchedPost B qb slots L w) := by
  obtain ⟨n, hn⟩ : ∃ n, L.length = n := ⟨_, rfl⟩
  have HN := Lib.hid hn
  obtain ⟨a, cap, c1, hrd⟩ := h.list (by omega)
  rw [hn] at hl hrd c1
  have HR := Lib.hid hrd
  have HQ := Lib.hid h
  have HBB := Lib.hid hB
  have C1 := Lib.hid c1
  have c0 := h.c0
  have HC0 := Lib.hid c0
  have HQL := Lib.hid h.ty.lt
  clear h hn hrd hB
  go_enter Try.func12, Try.ntmps12
  go_wp2_with fail
  go_loopw [4, 23] (fun x y wr => ∃ (k : Nat) (c : Int), k ≤ n ∧ y = .int .i64 k ∧ x = .int .i64 c ∧ -(k : Int) ≤ c ∧ c ≤ 48 ∧ Hid (c = slots - heldK L k) ∧ Hid (Below w.heap.size w wr)) (fun _ y _ => n - (intOf y).toNat)
  case atStart => exact ⟨0, slots, by omega, rfl, rfl, by omega, h2, Lib.hid (by simp [heldK]), Lib.hid (Below.refl _ _)⟩
  case round =>
    rename World => wr
    obtain ⟨k, c, hk, rfl, rfl, hc1, hc2, HC, HB⟩ := hrel
    by_cases hkn : k < n
    · obtain ⟨x, hx⟩ : ∃ x, L[k]? = some x := ⟨L[k]'(by have := HN.out; omega), by simp⟩
      obtain ⟨g, off, rfl, hg, hcell⟩ := HR.out.entry hx
      obtain ⟨b0, b1, b2, b3, b4, b5, b6, b7, b8⟩ := hcell _ HB.out
      have HS := Lib.hid (heldK_succ hx)
      have HBX := Lib.hid (below_alloc wr (.cells (ec x) 60))
      clear hx hcell hg
      cases hh : x.held with
      | true =>
        rw [hh] at HS b8
        have HC2 := Lib.hid (show c - 1 = slots - heldK L (k + 1) by rw [HS.out, HC.out]; simp; omega)
        obtain ⟨⟨a1, a2, a3, a4, n1, d1⟩, na, nc, da, dc, ru, se⟩ := x
        obtain rfl : se = true := hh
        clear HS
        go_wp2_with fail
        go_roundw
        case rel => exact ⟨k + 1, c - 1, by omega, by go_num, rfl, by omega, by omega, HC2, Lib.hid (HB.out.trans (HBX.out.mono HB.out.size))⟩
        case measure => simp [intOf]; omega
      | false =>
        rw [hh] at HS b8
        have HC2 := Lib.hid (show c = slots - heldK L (k + 1) by rw [HS.out, HC.out]; simp)
        obtain ⟨⟨a1, a2, a3, a4, n1, d1⟩, na, nc, da, dc, ru, se⟩ := x
        obtain rfl : se = false := hh
        clear HS
        go_wp2_with fail
        go_roundw
        case rel => exact ⟨k + 1, c, by omega, by go_num, rfl, by omega, by omega, HC2, Lib.hid (HB.out.trans (HBX.out.mono HB.out.size))⟩
        case measure => simp [intOf]; omega
    · obtain rfl : k = n := by omega
      have HQ1 := Lib.hid (HQ.out.keep HB.out)
      have d1 := (HB.out.cell (p := ⟨qb, 1, none⟩) HQL.out).trans C1.out
      have HC3 := Lib.hid (show c = slotsL slots L by rw [HC.out, heldK, ← HN.out, List.take_length]; rfl)
      have HSC := Lib.hid (show Sc B qb slots (slotsL slots L) L k w wr 0 c (.slice none 0 0) (.slice none 0 0) 0 0 from
        ⟨by rw [HC3.out]; rfl, rfl, rfl, Two.start ((cut_below HBB.out).trans (HB.out.mono (by rw [cut_size HBB.out]; exact HBB.out))) HB.out.size, by
          show Qp B qb slots ([] ++ L.drop 0) wr
          rw [List.nil_append, List.drop_zero]
          exact HQ1.out, Qt.of_below HB.out B⟩)
      have hc3 : -1000 ≤ c := by omega
      clear HC HC3 hc1 HQ HC0 HR
      go_wp2_with fail
      clear d1
      obtain ⟨c0, hc0⟩ : ∃ c0, slotsL slots L = c0 := ⟨_, rfl⟩
      have HCC := Lib.hid hc0
      rw [hc0] at HSC
      clear hc0
      go_loopw [4, 7, 8, 37] (fun x y z u wr => ∃ (i : Nat) (c : Int) (p1 p2 : Option Addr) (N1 N2 q1 q2 : Nat), i ≤ k ∧ u = .int .i64 i ∧ x = .int .i64 c ∧ y = .slice p1 N1 q1 ∧ z = .slice p2 N2 q2 ∧ -1000 ≤ c ∧ c ≤ 48 ∧ Hid (Sc B qb slots c0 L k w wr i c (.slice p1 N1 q1) (.slice p2 N2 q2) N1 N2)) (fun _ _ _ u _ => k - (intOf u).toNat)
      case atStart => exact ⟨0, c, none, none, 0, 0, 0, 0, by omega, rfl, rfl, rfl, rfl, hc3, hc2, HSC⟩
      case round =>
        clear HSC hc3 hc2
        obtain ⟨i, c, p1, p2, N1, N2, q1, q2, hi, rfl, rfl, rfl, rfl, hc1, hc2, HSC⟩ := hrel
        rename World => wr
        by_cases hik : i < k
        · obtain ⟨x, hx⟩ : ∃ x, L[i]? = some x := ⟨L[i]'(by have := HN.out; omega), by simp⟩
          have hrow := (row_step hx (c := c0) rfl).1
          have HXX := Lib.hid hrow
          have HX := Lib.hid hx
          have HEC := Lib.hid HSC.out.ec
          obtain ⟨g, cap2, hqa⟩ := HSC.out.q.at (sch_len HN.out c0 i) (by omega)
          have HQA := Lib.hid hqa
          have HT := Lib.hid HSC.out.two
          have Ht := Lib.hid HSC.out.t
          have he1 := HSC.out.e1
          have he2 := HSC.out.e2
          have HL1 := Lib.hid (show (schS c0 (L.take i)).length ≤ 1000 by have := schS_len (L.take i) c0; rw [List.length_take] at this; omega)
          have HL2 := Lib.hid (show (schP c0 (L.take i)).length ≤ 1000 by have := schP_len (L.take i) c0; rw [List.length_take] at this; omega)
          subst he1 he2
          have cl := hqa.caps
          have cl1 := cl.1
          have cl2 := cl.2
          have cc1 := hqa.c1
          obtain ⟨b0, b1, b2, b3, b4, b5, b6, b7, b8⟩ := hqa.entry hrow
          have bf := hqa.cold (i * 9 + 7)
          clear hx hrow hqa HSC cl
          cases hh : x.held with
          | true =>
            have HR := Lib.hid (show runOf c x = true by simp [runOf, hh])
            have HCN := Lib.hid (show cnt c x = c by simp [cnt, hh])
            rw [hh] at b8
            cases hr : x.run with
            | true =>
              have HS := Lib.hid (show (if true && !x.run then [x.key] else []) = [] by simp [hr])
              have HP := Lib.hid (show (if !true && x.run then [x.key] else []) = [] by simp [hr])
              rw [hr] at b7
              obtain ⟨⟨a1, a2, a3, a4, n1, d1⟩, na, nc, da, dc, ru, se⟩ := x
              clear hh hr
              go_wp2_with fail
              go_roundw
              case rel => exact ⟨i + 1, c, p1, p2, _, _, q1, q2, by omega, by go_num, rfl, rfl, rfl, by omega, by omega, Lib.hid (Sc.next HX.out HEC.out HR.out HCN.out (by rw [HS.out, List.append_nil]) (by rw [HP.out, List.append_nil]) rfl rfl HT.out HQA.out Ht.out HBB.out)⟩
              case measure => simp [intOf]; omega
            | false =>
              have HS := Lib.hid (show (if true && !x.run then [x.key] else []) = [x.key] by simp [hr])
              have HP := Lib.hid (show (if !true && x.run then [x.key] else []) = [] by simp [hr])
              rw [hr] at b7
              obtain ⟨⟨a1, a2, a3, a4, n1, d1⟩, na, nc, da, dc, ru, se⟩ := x
              clear hh hr
              go_wp2_with (first | (
                                     go_at_call 21
                                     (with_reducible refine (key_as ⟨a1, a2, a3, a4, n1, d1⟩ _ _ _ _ _ _ _).mono ?_)
                                     rintro e w2 ⟨rfl, hb⟩
                                     have HT2 := Lib.hid (HT.out.keep hb)
                                     have HQ2 := Lib.hid (HQA.out.keep hb)
                                     have Ht2 := Lib.hid (Ht.out.keep hb)
                                     clear hb) | (
                                                   at_builtin
                                                   refine wpList_push elt42 (E := eK) (x := (a1, a2)) _ _ rfl rfl rfl rfl rfl HT2.out.o1 (by have := HL1.out; omega) ?_
                                                   intro p3 c3 w3 HO3 HG3
                                                   have hx := below_alloc w2 (.cells (eK.f (a1, a2)).toArray 39)
                                                   have HT3 := Lib.hid ((HT2.out.keep hx).push HO3.out HG3.out)
                                                   have HQ3 := Lib.hid ((HQ2.out.keep hx).grown (HT2.out.keep hx).o1.row (by decide) (by decide) (by decide) HG3.out.by_)
                                                   have Ht3 := Lib.hid ((Ht2.out.keep hx).grown HG3.out.by_ HT2.out.n1)
                                                   obtain ⟨e0, e1, e2, e3, e4, e5, e6, e7, e8⟩ := HQ3.out.entry HXX.out
                                                   have ef := HQ3.out.cold (i * 9 + 7)
                                                   clear hx))
              go_roundw
              case rel => exact ⟨i + 1, c, p3, p2, _, _, c3, q2, by omega, by go_num, rfl, rfl, rfl, by omega, by omega, Lib.hid (Sc.next HX.out HEC.out HR.out HCN.out (by rw [HS.out]) (by rw [HP.out, List.append_nil]) (by rw [List.length_append]; rfl) rfl HT3.out HQ3.out Ht3.out HBB.out)⟩
              case measure => simp [intOf]; omega
          | false =>
            rw [hh] at b8
            by_cases hc : 0 < c
            · have HR := Lib.hid (show runOf c x = true by simp [runOf, hh, hc])
              have HCN := Lib.hid (show cnt c x = c - 1 by simp [cnt, hh, hc])
              cases hr : x.run with
              | true =>
                have HS := Lib.hid (show (if true && !x.run then [x.key] else []) = [] by simp [hr])
                have HP := Lib.hid (show (if !true && x.run then [x.key] else []) = [] by simp [hr])
                rw [hr] at b7
                obtain ⟨⟨a1, a2, a3, a4, n1, d1⟩, na, nc, da, dc, ru, se⟩ := x
                clear hh hr
                go_wp2_with fail
                go_roundw
                case rel => exact ⟨i + 1, c - 1, p1, p2, _, _, q1, q2, by omega, by go_num, rfl, rfl, rfl, by omega, by omega, Lib.hid (Sc.next HX.out HEC.out HR.out HCN.out (by rw [HS.out, List.append_nil]) (by rw [HP.out, List.append_nil]) rfl rfl HT.out HQA.out Ht.out HBB.out)⟩
                case measure => simp [intOf]; omega
              | false =>
                have HS := Lib.hid (show (if true && !x.run then [x.key] else []) = [x.key] by simp [hr])
                have HP := Lib.hid (show (if !true && x.run then [x.key] else []) = [] by simp [hr])
                rw [hr] at b7
                obtain ⟨⟨a1, a2, a3, a4, n1, d1⟩, na, nc, da, dc, ru, se⟩ := x
                clear hh hr
                go_wp2_with (first | (
                                       go_at_call 21
                                       (with_reducible refine (key_as ⟨a1, a2, a3, a4, n1, d1⟩ _ _ _ _ _ _ _).mono ?_)
                                       rintro e w2 ⟨rfl, hb⟩
                                       have HT2 := Lib.hid (HT.out.keep hb)
                                       have HQ2 := Lib.hid (HQA.out.keep hb)
                                       have Ht2 := Lib.hid (Ht.out.keep hb)
                                       clear hb) | (
                                                     at_builtin
                                                     refine wpList_push elt42 (E := eK) (x := (a1, a2)) _ _ rfl rfl rfl rfl rfl HT2.out.o1 (by have := HL1.out; omega) ?_
                                                     intro p3 c3 w3 HO3 HG3
                                                     have hx := below_alloc w2 (.cells (eK.f (a1, a2)).toArray 39)
                                                     have HT3 := Lib.hid ((HT2.out.keep hx).push HO3.out HG3.out)
                                                     have HQ3 := Lib.hid ((HQ2.out.keep hx).grown (HT2.out.keep hx).o1.row (by decide) (by decide) (by decide) HG3.out.by_)
                                                     have Ht3 := Lib.hid ((Ht2.out.keep hx).grown HG3.out.by_ HT2.out.n1)
                                                     obtain ⟨e0, e1, e2, e3, e4, e5, e6, e7, e8⟩ := HQ3.out.entry HXX.out
                                                     have ef := HQ3.out.cold (i * 9 + 7)
                                                     clear hx))
                go_roundw
                case rel => exact ⟨i + 1, c - 1, p3, p2, _, _, c3, q2, by omega, by go_num, rfl, rfl, rfl, by omega, by omega, Lib.hid (Sc.next HX.out HEC.out HR.out HCN.out (by rw [HS.out]) (by rw [HP.out, List.append_nil]) (by rw [List.length_append]; rfl) rfl HT3.out HQ3.out Ht3.out HBB.out)⟩
                case measure => simp [intOf]; omega
            · have HR := Lib.hid (show runOf c x = false by simp [runOf, hh, hc])
              have HCN := Lib.hid (show cnt c x = c by simp [cnt, hh, hc])
              have hd : decide (0 < c) = false := by simpa using hc
              clear hc
              cases hr : x.run with
              | true =>
                have HS := Lib.hid (show (if false && !x.run then [x.key] else []) = [] by simp [hr])
                have HP := Lib.hid (show (if !false && x.run then [x.key] else []) = [x.key] by simp [hr])
                rw [hr] at b7
                obtain ⟨⟨a1, a2, a3, a4, n1, d1⟩, na, nc, da, dc, ru, se⟩ := x
                clear hh hr
                go_wp2_with (first | (
                                       go_at_call 21
                                       (with_reducible refine (key_as ⟨a1, a2, a3, a4, n1, d1⟩ _ _ _ _ _ _ _).mono ?_)
                                       rintro e w2 ⟨rfl, hb⟩
                                       have HT2 := Lib.hid (HT.out.keep hb)
                                       have HQ2 := Lib.hid (HQA.out.keep hb)
                                       have Ht2 := Lib.hid (Ht.out.keep hb)
                                       clear hb) | (
                                                     at_builtin
                                                     refine wpList_push elt42 (E := eK) (x := (a1, a2)) _ _ rfl rfl rfl rfl rfl HT2.out.o2 (by have := HL2.out; omega) ?_
                                                     intro p3 c3 w3 HO3 HG3
                                                     have hx := below_alloc w2 (.cells (eK.f (a1, a2)).toArray 39)
                                                     have HT3 := Lib.hid (((HT2.out.keep hx).swap.push HO3.out HG3.out).swap)
                                                     have HQ3 := Lib.hid ((HQ2.out.keep hx).grown (HT2.out.keep hx).o2.row (by decide) (by decide) (by decide) HG3.out.by_)
                                                     have Ht3 := Lib.hid ((Ht2.out.keep hx).grown HG3.out.by_ HT2.out.n2)
                                                     obtain ⟨e0, e1, e2, e3, e4, e5, e6, e7, e8⟩ := HQ3.out.entry HXX.out
                                                     have ef := HQ3.out.cold (i * 9 + 7)
                                                     clear hx))
                go_roundw
                case rel => exact ⟨i + 1, c, p1, p3, _, _, q1, c3, by omega, by go_num, rfl, rfl, rfl, by omega, by omega, Lib.hid (Sc.next HX.out HEC.out HR.out HCN.out (by rw [HS.out, List.append_nil]) (by rw [HP.out]) rfl (by rw [List.length_append]; rfl) HT3.out HQ3.out Ht3.out HBB.out)⟩
                case measure => simp [intOf]; omega
              | false =>
                have HS := Lib.hid (show (if false && !x.run then [x.key] else []) = [] by simp [hr])
                have HP := Lib.hid (show (if !false && x.run then [x.key] else []) = [] by simp [hr])
                rw [hr] at b7
                obtain ⟨⟨a1, a2, a3, a4, n1, d1⟩, na, nc, da, dc, ru, se⟩ := x
                clear hh hr
                go_wp2_with fail
                go_roundw
                case rel => exact ⟨i + 1, c, p1, p2, _, _, q1, q2, by omega, by go_num, rfl, rfl, rfl, by omega, by omega, Lib.hid (Sc.next HX.out HEC.out HR.out HCN.out (by rw [HS.out, List.append_nil]) (by rw [HP.out, List.append_nil]) rfl rfl HT.out HQA.out Ht.out HBB.out)⟩
                case measure => simp [intOf]; omega
        · obtain rfl : i = k := by omega
          have HQF := Lib.hid (show Qp B qb slots (schL c0 L) wr by
            have := HSC.out.q
            rwa [← HN.out, List.take_length, List.drop_length, List.append_nil] at this)
          have HT := Lib.hid (show Two w.heap.size (cut B w) wr (.slice p1 N1 q1) (.slice p2 N2 q2) (schS c0 L) (schP c0 L) by
            have := HSC.out.two
            rwa [← HN.out, List.take_length] at this)
          have Ht := Lib.hid HSC.out.t
          have he1 := HSC.out.e1
          have he2 := HSC.out.e2
          have HL1 := Lib.hid (show N1 ≤ 1000 by have := schS_len (L.take i) c0; rw [List.length_take] at this; omega)
          have HL2 := Lib.hid (show N2 ≤ 1000 by have := schP_len (L.take i) c0; rw [List.length_take] at this; omega)
          clear HSC he1 he2
          have K1 := Lib.hid (sorted_as HT.out.o1 HL1.out)
          go_wp2_with (first
            | (go_at_call 25; (with_reducible refine K1.out.mono ?_); rintro e w2 ⟨rfl, hs, hg⟩; have HS1 := Lib.hid hs; have HG1 := Lib.hid hg; have HO2 := Lib.hid (HT.out.other hg); have K2 := Lib.hid (sorted_as HO2.out HL2.out); clear hs hg)
            | (go_at_call 25; (with_reducible refine K2.out.mono ?_); rintro e w3 ⟨rfl, hs, hg⟩; have HS2 := Lib.hid hs; have HG2 := Lib.hid hg; clear hs hg))
          go_ret2
          obtain ⟨S', hp1, hs1, hr1⟩ := HS1.out
          obtain ⟨P', hp2, hs2, hr2⟩ := HS2.out
          have hr3 : Rt eK 39 w3 (.slice p1 N1 q1) S' := hr1.same HG2.out.size fun k hk => HG2.out.block k (hr1.ty k hk).lt fun e => HT.out.ne k hk e.symm
          have hq2 := HQF.out.grown HT.out.o1.row (by decide) (by decide) (by decide) HG1.out
          have hq3 := hq2.grown HO2.out.row (by decide) (by decide) (by decide) HG2.out
          have ht3 := (Ht.out.grown HG1.out HT.out.n1).grown HG2.out HT.out.n2
          have e1 : N1 = S'.length := hr3.rd.caps.2.2
          have e2 : N2 = P'.length := hr2.rd.caps.2.2
          subst e1 e2
          have hcc := HCC.out
          subst hcc
          exact ⟨p1, S', q1, p2, P', q2, rfl, ⟨hp1, hs1⟩, ⟨hp2, hs2⟩, hr3, hr2, hq3, ht3⟩
end Go.Proofs.Ytgnmolleaengaaa
