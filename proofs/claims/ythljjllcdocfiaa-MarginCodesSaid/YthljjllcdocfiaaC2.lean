/- The program's Cuts. -/
import Derived.Test.YthljjllcdocfiaaC1
import Derived.Test.YthljjllcdocfiaaMx
import Derived.Test.YthljjllcdocfiaaB7
import Derived.Test.YthljjllcdocfiaaB3
import Derived.Laws.NewBlocks
set_option linter.unusedVariables false
set_option linter.unusedSimpArgs false
set_option linter.unnecessarySimpa false
namespace Go.Proofs.Ythljjllcdocfiaa
open Go Go.RowKit Go.MapKept

theorem info4 : (Try.prog.info? 4).map (fun i => (i.zero, i.size, i.bytes)) = some (some (.bool false), 1, 1) := by kernel_rfl

theorem RO.setBox {w0 w : World} {v : Value} {hs : List Hd} {L : List (List Int)} (h : RO w0 w v hs L) {b : Nat} (hb : w0.heap.size ≤ b) (hv' : v.ownBlock ≠ some b) (hr : ∀ (i : Nat) (x : Hd) (r : List Int), hs[i]? = some x → L[i]? = some r → r ≠ [] → (hv x).ownBlock ≠ some b) (i : Nat) (u : Value) : RO w0 (w.setCell ⟨b, i, none⟩ u) v hs L := by
  have keep : ∀ k, k ≠ b → (w.setCell ⟨b, i, none⟩ u).heap[k]? = w.heap[k]? := fun k hk => Below.heap_setCell _ _ _ _ hk
  refine ⟨⟨h.own.below.setCell hb u, owns_same h.own.row (fun k hk => keep k (fun e => hv' (by rw [hk, e]))), fun t ht => by cases ht⟩, h.len, fun j x r hx hr' => ⟨?_, (h.row j x r hx hr').2⟩⟩
  obtain ⟨a, cap, ev, hl, hm⟩ := (h.row j x r hx hr').1
  refine ⟨a, cap, ev, hl, ?_⟩
  by_cases h0 : r = []
  · exact .inl h0
  · rcases hm with hm | ⟨b', off, rfl, hlt, hc⟩
    · exact .inl hm
    · have hne := hr j x r hx hr' h0
      rw [ev] at hne
      refine .inr ⟨b', off, rfl, by simp; exact hlt, fun q z hz => (World.cell?_of_block (a := ⟨b', off + q, none⟩) (keep b' (fun e => hne (by rw [← e]; rfl)))).trans (hc q z hz)⟩

/-- the list of cuts so far, and the variable that holds it -/
structure Cx (wq wi : World) (b : Nat) (p : Option Addr) (n c : Nat) (hs : List Hd) (D : List (List Int)) : Prop where
  ro : RO wq wi (.slice p n c) hs D
  box : wi.heap[b]? = some (.cells #[.slice p n c] 35 (0, 0))
  base : wq.heap.size ≤ b
  apart : ∀ (i : Nat) (x : Hd) (r : List Int), hs[i]? = some x → D[i]? = some r → r ≠ [] → (hv x).ownBlock ≠ some b
namespace Cx
variable {wq wi w' : World} {b : Nat} {p p' : Option Addr} {n n' c c' : Nat} {hs : List Hd} {D : List (List Int)}
theorem start (w : World) : Cx w (w.alloc (.cells #[.slice none 0 0] 35)) w.heap.size none 0 0 [] [] :=
  ⟨(RO.start w).grow (below_alloc _ _), by show (w.heap.push _)[w.heap.size]? = _; simp, Nat.le_refl _, fun i x r hx => by simp at hx⟩
theorem lt (h : Cx wq wi b p n c hs D) : b < wi.heap.size := (Array.getElem?_eq_some_iff.1 h.box).1
theorem grow (h : Cx wq wi b p n c hs D) (hb : Below wi.heap.size wi w') : Cx wq w' b p n c hs D :=
  ⟨h.ro.grow hb, (hb.block b h.lt).trans h.box, h.base, h.apart⟩
theorem cell (h : Cx wq wi b p n c hs D) : wi.cell? ⟨b, 0, none⟩ = some (.slice p n c) := by simp [World.cell?, h.box]
theorem cold (h : Cx wq wi b p n c hs D) : wi.frozen? ⟨b, 0, none⟩ = false := by simp [World.frozen?, h.box]
theorem ne (h : Cx wq wi b p n c hs D) : (Value.slice p n c).ownBlock ≠ some b := by
  intro e
  rcases h.ro.own.row.2 with ⟨h0, _⟩ | ⟨g, cap, cur, he, _, hg, _⟩
  · rw [h0] at e; cases e
  · rw [he] at e
    simp [Value.ownBlock] at e
    subst e
    rw [h.box] at hg
    cases hg
/-- one set appended, and the variable set -/
theorem put {W : World} (h : Cx wq W b p n c hs D) {x : Hd} {r : List Int} (hx : Rd eI W (hv x) r) (hlt : r ≠ [] → ∀ k, (hv x).ownBlock = some k → (Value.slice p n c).ownBlock ≠ some k ∧ k ≠ b) (ho : Ow eH 31 wq w' (.slice p' n' c') (hs ++ [x])) (hg : Grew W w' (.slice p n c) (.slice p' n' c')) :
    Cx wq (w'.setCell ⟨b, 0, none⟩ (.slice p' n' c')) b p' n' c' (hs ++ [x]) (D ++ [r]) := by
  have hro := h.ro.push hx (fun h0 k hk => (hlt h0 k hk).1) ho hg
  have hap : ∀ (i : Nat) (y : Hd) (q : List Int), (hs ++ [x])[i]? = some y → (D ++ [r])[i]? = some q → q ≠ [] → (hv y).ownBlock ≠ some b := by
    intro i y q hy hq h0
    rcases Nat.lt_trichotomy i hs.length with hi | hi | hi
    · rw [List.getElem?_append_left hi] at hy
      rw [List.getElem?_append_left (by rw [← h.ro.len]; exact hi)] at hq
      exact h.apart i y q hy hq h0
    · subst hi
      simp at hy
      rw [h.ro.len] at hq
      simp at hq
      subst hy hq
      exact fun e => (hlt h0 b e).2 rfl
    · rw [List.getElem?_eq_none (by simp; omega)] at hy
      cases hy
  have hbox : w'.heap[b]? = some (.cells #[.slice p n c] 35 (0, 0)) := (hg.by_.block b h.lt (fun e => h.ne e.symm)).trans h.box
  have hne : (Value.slice p' n' c').ownBlock ≠ some b := by
    intro e
    rcases hg.at_ with q | q
    · exact h.ne (q.symm.trans e)
    · rw [q] at e
      have := h.lt
      cases e
      omega
  refine ⟨hro.setBox h.base hne hap 0 _, ?_, h.base, hap⟩
  show (w'.heap.modify b _)[b]? = _
  simp [Array.getElem?_modify, hbox]
end Cx

theorem sort_cx {wq wi : World} {b : Nat} {p : Option Addr} {n c : Nat} {hs : List Hd} {D : List (List Int)} (h : Cx wq wi b p n c hs D) (hn : n ≤ 1000000) :
    Calls Try.prog 38 #[.iface 35 (.slice p n c), .func (.func 39) #[] #[.pointer (some ⟨b, 0, none⟩)]] wi fun e w' => e = .returned (.tuple #[]) ∧ w'.cell? ⟨b, 0, none⟩ = some (.slice p n c) ∧ ∃ hs' L', RO wq w' (.slice p n c) hs' L' ∧ L'.Perm D ∧ L'.Pairwise (fun x y => lessL y x = false) := by
  have hnD : n = D.length := by obtain ⟨a, cp, q⟩ := h.ro.val; cases q; rfl
  by_cases h2 : 2 ≤ n
  · rcases p with _ | a
    · have := h.ro.own.bare.1; omega
    · obtain ⟨_, _, h3, h4⟩ := h.ro.own.cap
      obtain ⟨g, off, sp⟩ := a
      simp only at h3 h4
      subst h3 h4
      have hne : b ≠ g := fun e => h.ne (by rw [e]; rfl)
      refine (sort_many h.ro h.cell hne h.lt hn h2).mono ?_
      rintro e w' ⟨he, ho, hs', L', h5, h6, h7⟩
      exact ⟨he, (World.cell?_of_block (a := ⟨b, 0, none⟩) (ho.block b h.lt (by simpa using hne))).trans h.cell, hs', L', h5, h6, h7⟩
  · refine (sort_tiny p n c (by omega) _ _ _ wi).mono ?_
    rintro e w' ⟨he, hb⟩
    refine ⟨he, (hb.cell (p := ⟨b, 0, none⟩) h.lt).trans h.cell, hs, D, h.ro.grow hb, List.Perm.refl _, ?_⟩
    match D, hnD with
    | [], _ => exact List.Pairwise.nil
    | [x], _ => exact List.pairwise_singleton _ _
    | _ :: _ :: _, hnD => simp at hnD; omega
/-- the set that was picked lies in memory that is new against w6 -/
def V1 (w6 : World) (S : List Int) (r : Nat) (u : Value) (w : World) : Prop := ∃ sp sc, u = .slice sp r sc ∧ Rd eI w (.slice sp r sc) S ∧ (S ≠ [] → ∀ b, (Value.slice sp r sc).ownBlock = some b → w6.heap.size ≤ b) ∧ Below w6.heap.size w6 w
def V2 (w6 : World) (S : List Int) (r : Nat) (sp : Option Addr) (sc : Nat) (u : Value) (w : World) : Prop := ∃ bx, u = .slice (some ⟨bx, 0, none⟩) 1 1 ∧ Rd eH w u [((sp, r, sc) : Hd)] ∧ V1 w6 S r (.slice sp r sc) w
theorem V1.stable (w6 : World) (S : List Int) (r : Nat) (u : Value) : Stable (V1 w6 S r u) := by
  rintro wa wb ⟨sp, sc, h1, h2, h3, h4⟩ hb
  exact ⟨sp, sc, h1, h2.keep hb, h3, h4.trans (hb.mono h4.size)⟩
theorem V1.below {w6 w : World} {S : List Int} {r : Nat} {u : Value} (h : V1 w6 S r u w) : Below w6.heap.size w6 w := by
  obtain ⟨sp, sc, h1, h2, h3, h4⟩ := h
  exact h4
theorem V2.stable (w6 : World) (S : List Int) (r : Nat) (sp : Option Addr) (sc : Nat) (u : Value) : Stable (V2 w6 S r sp sc u) := by
  rintro wa wb ⟨bx, h1, h2, h3⟩ hb
  exact ⟨bx, h1, h2.keep hb, V1.stable _ _ _ _ _ _ h3 hb⟩
theorem V2.start {w6 w : World} {S : List Int} {r : Nat} {sp : Option Addr} {sc : Nat} (h : V1 w6 S r (.slice sp r sc) w) : V2 w6 S r sp sc (.slice (some ⟨w.heap.size, 0, none⟩) 1 1) (w.alloc (.cells #[.slice sp r sc] 31)) :=
  ⟨_, rfl, Rd.new (E := eH) w [((sp, r, sc) : Hd)] (by simp) 31, V1.stable _ _ _ _ _ _ h (below_alloc _ _)⟩

def lostK (k st : Int) (l : List Cp) (d : List Int) (m j : Nat) : Bool := lostB k st l d m && ((memL m).take j).all fun i => !lostB k st l d (clr m i.toNat)
theorem lostK_succ {k st : Int} {l : List Cp} {d : List Int} {m j : Nat} {i : Int} (h : (memL m)[j]? = some i) : lostK k st l d m (j + 1) = (lostK k st l d m j && !lostB k st l d (clr m i.toNat)) := by
  unfold lostK
  rw [List.take_add_one, h, List.all_append]
  simp [Bool.and_assoc]
theorem lostK_all {k st : Int} {l : List Cp} {d : List Int} {m r : Nat} (h : (memL m).length = r) : lostK k st l d m r = leastB k st l d m := by
  unfold lostK leastB
  rw [← h, List.take_length]
set_option maxHeartbeats 16000000 in
set_option maxRecDepth 20000 in
theorem Cuts_as (v : Value) (k st : Int) (l : List Cp) (w : World) (h : Rd eC w v l) (hl : l.length ≤ 1000) {L : List (List Int)} {e : Int} (hc : cutsF k st l = (L, e)) : Calls Try.prog 22 #[.int .i64 k, .int .i64 st, v] w (IsSets w L e) := by
  obtain ⟨a, cap, rfl, hlen⟩ := h.open
  have H := Lib.hid h
  obtain ⟨n1, hn1⟩ : ∃ n, l.length = n := ⟨_, rfl⟩
  have HN1 := Lib.hid hn1
  obtain ⟨q, hq⟩ : ∃ q, validB k st = q := ⟨_, rfl⟩
  have KV := fun w => Lib.hid (show Calls Try.prog 30 #[.int .i64 k, .int .i64 st] w (fun e w' => e = .returned (.bool q) ∧ w = w') from hq ▸ valid_any k st w)
  unfold cutsF at hc
  rw [hq] at hc
  rw [hn1] at hlen hl ⊢
  cases q with
  | false =>
    simp at hc
    obtain ⟨rfl, rfl⟩ := hc
    clear h hn1 hq
    go_enter Try.func22, Try.ntmps22
    go_wp2_with (first
      | (go_at_call 30; (with_reducible refine (KV _).out.mono ?_); rintro e w1 ⟨rfl, rfl⟩))
    go_ret2
    exact ⟨none, 0, [], rfl, RO.start w⟩
  | true =>
    have HC := Lib.hid hc
    clear h hn1 hq hc
    go_enter Try.func22, Try.ntmps22
    go_wp2_with (first
      | (go_at_call 30; (with_reducible refine (KV _).out.mono ?_); rintro e w1 ⟨rfl, rfl⟩))
    go_loopw [8, 24] (fun x y wr => ∃ (i m : Nat) (p : Option Addr) (c : Nat) (D : List Int), i ≤ n1 ∧ y = .int .i64 i ∧ x = .slice p m c ∧ m ≤ i ∧ Hid (D.length = m) ∧ Hid (dstL (l.take i) = D) ∧ Hid (Ow eI 3 w wr (.slice p m c) D)) (fun _ y _ => n1 - (intOf y).toNat)
    case atStart => exact ⟨0, 0, none, 0, [], by omega, rfl, rfl, by omega, Lib.hid rfl, Lib.hid rfl, Lib.hid (Ow.start 3 w)⟩
    case round =>
      rename World => wr
      obtain ⟨i, m, p, c, D, hi, rfl, rfl, hmi, HM, HD, HO⟩ := hrel
      by_cases hin : i < n1
      · obtain ⟨x, hx⟩ : ∃ x, l[i]? = some x := ⟨l[i]'(by rw [HN1.out]; exact hin), by simp⟩
        have HR := H.out.below HO.out.below (Nat.le_refl _)
        rw [HN1.out] at HR
        obtain ⟨b, off, rfl, hb, c0, c1, c2⟩ := HR.cp hx
        have HS := Lib.hid (dst_take hx)
        obtain ⟨f, d, t⟩ := x
        simp only at c0 c1 c2
        rw [HD.out] at HS
        have M0 := Lib.hid ((Mm.start (S := []) wr (by simp)).push wr.heap.size #[.int .i64 f, .int .i64 d, .int .i64 t] 44 rfl)
        have HO1 := Lib.hid (HO.out.grow (below_alloc wr (.cells #[.int .i64 f, .int .i64 d, .int .i64 t] 44)))
        obtain ⟨q, hq⟩ : ∃ q, cnt (f, d, t) = q := ⟨_, rfl⟩
        have HQ := Lib.hid hq
        obtain ⟨z, hz⟩ : ∃ z, hasI D d = z := ⟨_, rfl⟩
        have HZ := Lib.hid hz
        clear hx hq hz HR
        cases q with
        | false =>
          have HE := Lib.hid (show dstL (l.take (i + 1)) = D by rw [HS.out]; unfold dstStep; rw [HQ.out]; rfl)
          go_wp2_with (first
            | (go_at_call 35; (with_reducible refine (counts_as _ _ _ HQ.out _).mono ?_); rintro e w1 ⟨rfl, hb1⟩; have HO2 := Lib.hid (HO1.out.grow hb1); have M1 := Lib.hid (M0.out.call hb1); (obtain ⟨m00, m01, m02, m00f, m01f, m02f, m0l⟩ := (M1).out.lay3 0 rfl); clear hb1))
          go_roundw
          case rel => exact ⟨i + 1, m, p, c, D, by omega, by go_num, rfl, by omega, HM, HE, HO2⟩
          case measure => simp [intOf]; omega
        | true =>
          cases z with
          | true =>
            have HE := Lib.hid (show dstL (l.take (i + 1)) = D by rw [HS.out]; unfold dstStep; simp only [HQ.out, HZ.out]; rfl)
            go_wp2_with (first
              | (go_at_call 35; (with_reducible refine (counts_as _ _ _ HQ.out _).mono ?_); rintro e w1 ⟨rfl, hb1⟩; have HO2 := Lib.hid (HO1.out.grow hb1); have HW := Lib.hid ((HM.out ▸ HO2.out).rd (by have := HM.out; omega)); have M1 := Lib.hid (M0.out.call hb1); (obtain ⟨m00, m01, m02, m00f, m01f, m02f, m0l⟩ := (M1).out.lay3 0 rfl); clear hb1)
              | (go_at_call 33; (with_reducible refine (contains_as _ D _ _ (HM.out ▸ HW.out) HZ.out).mono ?_); rintro e w2 ⟨rfl, rfl⟩))
            go_roundw
            case rel => exact ⟨i + 1, m, p, c, D, by omega, by go_num, rfl, by omega, HM, HE, HO2⟩
            case measure => simp [intOf]; omega
          | false =>
            have HE := Lib.hid (show dstL (l.take (i + 1)) = D ++ [d] by rw [HS.out]; unfold dstStep; simp only [HQ.out, HZ.out]; rfl)
            go_wp2_with (first
              | (go_at_call 35; (with_reducible refine (counts_as _ _ _ HQ.out _).mono ?_); rintro e w1 ⟨rfl, hb1⟩; have HO2 := Lib.hid (HO1.out.grow hb1); have HW := Lib.hid ((HM.out ▸ HO2.out).rd (by have := HM.out; omega)); have M1 := Lib.hid (M0.out.call hb1); (obtain ⟨m00, m01, m02, m00f, m01f, m02f, m0l⟩ := (M1).out.lay3 0 rfl); clear hb1)
              | (go_at_call 33; (with_reducible refine (contains_as _ D _ _ (HM.out ▸ HW.out) HZ.out).mono ?_); rintro e w2 ⟨rfl, rfl⟩)
              | (at_builtin; refine wpList_push elt31 (E := eI) (l := D) (x := d) _ _ rfl rfl rfl rfl rfl HO2.out (by have := HM.out; omega) ?_; intro p2 c2 w2 HO3 HG3; rw [HM.out] at HO3 ⊢))
            go_roundw
            case rel => exact ⟨i + 1, m + 1, p2, c2, D ++ [d], by omega, by go_num, rfl, by omega, Lib.hid (by simp [HM.out]), HE, HO3⟩
            case measure => simp [intOf]; omega
      · obtain rfl : i = n1 := by omega
        have HDD := Lib.hid (show dstL l = D by rw [← HD.out, ← HN1.out, List.take_length])
        have HPD := Lib.hid (show D.mergeSort (fun x y => decide (x ≤ y)) = drvL l by rw [← HDD.out]; exact sort_dst l)
        have HDL := Lib.hid (show (drvL l).length = m by rw [← HPD.out, List.length_mergeSort, HM.out])
        have hc := HC.out
        rw [HDL.out] at hc
        by_cases h10 : 10 < m
        · simp [h10] at hc
          obtain ⟨rfl, rfl⟩ := hc
          go_wp2_with fail
          go_ret2
          exact ⟨none, 0, [], rfl, (RO.start wr).down HO.out.below⟩
        · simp [h10] at hc
          obtain ⟨hc, rfl⟩ := hc
          have HCC := Lib.hid hc
          have HSO := Lib.hid (sort_ints HO.out (by rw [HM.out]; omega))
          have HND := Lib.hid (show (drvL l).Nodup from (drv_sorted l).imp (fun h => by omega))
          rw [HPD.out] at HSO
          generalize drvL l = d at *
          obtain ⟨P, hP⟩ : ∃ P, 2 ^ m = P := ⟨_, rfl⟩
          have hP2 : P ≤ 1024 := by rw [← hP]; exact Nat.le_trans (Nat.pow_le_pow_right (by decide) (show m ≤ 10 by omega)) (by decide)
          have hP1 : 1 ≤ P := by rw [← hP]; exact Nat.one_le_two_pow
          have hsh : wrap64 ((2 : Int) ^ m) = (P : Int) := by rw [two_pow_cast, hP]; exact wrap64_small (by omega) (by omega)
          have HP := Lib.hid hP
          have hmk := run_make_row' (P := Try.prog) 57 4 (.bool false) 1 Try.underlying57 info4 rfl .i64 .i64 P (by omega) (by omega)
          clear hc hP
          go_wp2_with (first
            | (go_at_call 36; (with_reducible refine HSO.out.mono ?_); rintro e w1 ⟨rfl, ho⟩; have HO1 := Lib.hid ho; clear ho))
          rw [hsh]
          have HDR := Lib.hid (HO1.out.rd (by rw [HDL.out]; omega))
          have HA := Lib.hid (H.out.below HO1.out.below (Nat.le_refl _))
          rw [HN1.out] at HA
          obtain ⟨g2, hg2⟩ : ∃ x, w1.heap.size = x := ⟨_, rfl⟩
          rw [hg2]
          have HR0 := Lib.hid ((hg2 ▸ World.rowIs_made w1 (.bool false) P 4 : (w1.alloc (.cells (madeCells #[.bool false] P) 4)).rowIs g2 4 P (fun _ => .bool false)).congr (g := fun j => .bool (if j < 0 then lostB k st l d j else false)) (fun i _ => rfl))
          have HBc := Lib.hid (show Below g2 w1 (w1.alloc (.cells (madeCells #[.bool false] P) 4)) from hg2 ▸ below_alloc w1 _)
          have HG2 := Lib.hid hg2
          generalize w1.alloc (.cells (madeCells #[.bool false] P) 4) = w2 at *
          clear hg2 hmk HSO KV hsh
          go_loopw [54] (fun y wq => ∃ i : Nat, i ≤ P ∧ y = .int .i64 i ∧ Hid (wq.rowIs g2 4 P (fun j => .bool (if j < i then lostB k st l d j else false))) ∧ Hid (Below g2 w1 wq)) (fun y _ => P - (intOf y).toNat)
          case atStart => exact ⟨0, by omega, rfl, HR0, HBc⟩
          case round =>
            rename World => wq
            obtain ⟨mk, hmk, rfl, HR, HB⟩ := hrel
            clear HR0 HBc
            by_cases hmP : mk < P
            · have HD1 := Lib.hid (HDR.out.below HB.out (Nat.le_of_eq HG2.out))
              have KP := Lib.hid (pick_any _ d mk wq HD1.out (by rw [HDL.out]; omega) (by rw [HDL.out, HP.out]; exact hmP))
              obtain ⟨S, hS⟩ : ∃ S, chL d mk = S := ⟨_, rfl⟩
              have HSS := Lib.hid hS
              have HSL := Lib.hid (show S.length ≤ 10 by rw [← hS]; have := chK_len d mk d.length; have := HDL.out; unfold chL; omega)
              rw [hS] at KP
              obtain ⟨s, hs1⟩ : ∃ s, survF k st l S = s := ⟨_, rfl⟩
              have HSV := Lib.hid hs1
              have HLS := Lib.hid (show lostB k st l d mk = !s by unfold lostB; rw [hS, hs1])
              have HA1 := Lib.hid (HA.out.below HB.out (Nat.le_of_eq HG2.out))
              have hqs := HB.out.size
              have hql := HR.out.lt
              clear hS hs1
              go_wp2_with (first
                | (go_at_call 37; (with_reducible refine KP.out.mono ?_); rintro e w3 ⟨sp, sc, rfl, ho⟩; have HT := Lib.hid (ho.rd (by have := HSL.out; omega)); have HB3 := Lib.hid ho.below; clear ho)
                | (go_at_call 20; (with_reducible refine (Survives_as _ _ k st l S _ (HA1.out.keep HB3.out) HT.out (by rw [HN1.out]; exact hl) HSV.out).mono ?_); rintro e w4 ⟨rfl, hb4⟩; have HB4 := Lib.hid (HB3.out.trans (hb4.mono HB3.out.size)); have HR4 := Lib.hid (HR.out.of_block (HB4.out.block g2 hql)); have c5 := HR4.out.cell hmP; have f5 := HR4.out.frozen mk; have hl4 := HR4.out.lt; clear hb4))
              go_roundw
              case rel =>
                refine ⟨mk + 1, by omega, by go_num, Lib.hid ((HR4.out.set mk (.bool !s)).congr (fun j hj => ?_)), Lib.hid ((HB.out.trans (HB4.out.mono (by rw [← HG2.out]; exact hqs))).setCell (Nat.le_refl _) _)⟩
                by_cases e : j = mk
                · subst e
                  rw [if_pos rfl, if_pos (by omega), HLS.out]
                · rw [if_neg e]
                  by_cases e2 : j < mk
                  · rw [if_pos e2, if_pos (by omega)]
                  · rw [if_neg e2, if_neg (by omega)]
              case measure => simp [intOf]; omega
            · obtain rfl : mk = P := by omega
              have HRW := Lib.hid (HR.out.congr (g := fun j => .bool (lostB k st l d j)) (fun j hj => by rw [if_pos hj]))
              have HB0 := Lib.hid (HO1.out.below.trans (HB.out.mono (by rw [← HG2.out]; exact HO1.out.below.size)))
              have HDQ := Lib.hid (HDR.out.below HB.out (Nat.le_of_eq HG2.out))
              go_wp2_with fail
              have HX0 := Lib.hid (Cx.start wq)
              obtain ⟨b13, hb13⟩ : ∃ x, wq.heap.size = x := ⟨_, rfl⟩
              rw [hb13] at HX0 ⊢
              have HB13 := Lib.hid hb13
              generalize wq.alloc (.cells #[.slice none 0 0] 35) = w5 at *
              clear hb13
              go_loopw [71] (fun y wi => ∃ (i2 n2 : Nat) (p2 : Option Addr) (c2 : Nat) (hs : List Hd) (D2 : List (List Int)), i2 ≤ mk ∧ y = .int .i64 i2 ∧ n2 ≤ i2 ∧ Hid (D2.length = n2) ∧ Hid (outK k st l d i2 = D2) ∧ Hid (Cx wq wi b13 p2 n2 c2 hs D2)) (fun y _ => mk - (intOf y).toNat)
              case atStart => exact ⟨0, 0, none, 0, [], [], by omega, rfl, by omega, Lib.hid rfl, Lib.hid rfl, HX0⟩
              case round =>
                rename World => wi
                obtain ⟨i2, n2, p2, c2, hs, D2, hi2, rfl, hn2, HD2L, HD2, HX⟩ := hrel
                clear HX0
                by_cases hip : i2 < mk
                · have HRI := Lib.hid (HRW.out.of_block (HX.out.ro.own.below.block g2 HRW.out.lt))
                  have cL := HRI.out.cell hip
                  have lL := HRI.out.lt
                  have HL0 := Lib.hid (show lostK k st l d i2 0 = lostB k st l d i2 by unfold lostK; simp)
                  obtain ⟨r, hr⟩ : ∃ r, (memL i2).length = r := ⟨_, rfl⟩
                  have HRL := Lib.hid hr
                  have hr63 : r ≤ 63 := by rw [← hr]; exact memL_len i2
                  have hi62 : i2 < 4611686018427387904 := by omega
                  clear hr
                  go_wp2_with (first
                    | (go_at_call 31; (with_reducible refine (members_any _ hi62 _).mono ?_); rintro e w6 ⟨sp, sc, rfl, ho⟩; rw [HRL.out] at ho ⊢; have HT := Lib.hid (ho.rd (by rw [HRL.out]; omega)); have HX6 := Lib.hid (HX.out.grow ho.below); have HR6 := Lib.hid (HRI.out.of_block (ho.below.block g2 HRI.out.lt)); clear ho))
                  clear cL lL
                  go_loopw [81, 15] (fun y x wj => ∃ j : Nat, j ≤ r ∧ y = .int .i64 j ∧ x = .bool (lostK k st l d i2 j) ∧ w6 = wj) (fun y _ _ => r - (intOf y).toNat)
                  case atStart => exact ⟨0, by omega, rfl, by rw [HL0.out], rfl⟩
                  case round =>
                    rename World => wj
                    obtain ⟨j, hj, rfl, rfl, rfl⟩ := hrel
                    by_cases hjr : j < r
                    · obtain ⟨x, hx⟩ : ∃ x, (memL i2)[j]? = some x := ⟨(memL i2)[j]'(by rw [HRL.out]; exact hjr), by simp⟩
                      obtain ⟨y, rfl, hy, hbit⟩ := mem_lt (n := m) (by rw [HP.out]; exact hip) (by omega) hx
                      have HTT := HT.out
                      obtain ⟨b7, off7, rfl, hb7, c7⟩ := HTT.int (by rw [HRL.out]; exact hjr)
                      rw [show (memL i2).getD j 0 = (y : Int) by simp [hx]] at c7
                      have HS := Lib.hid (show lostK k st l d i2 (j + 1) = (lostK k st l d i2 j && !lostB k st l d (clr i2 y)) by have hh := lostK_succ (k := k) (st := st) (l := l) (d := d) hx; rw [Int.toNat_natCast] at hh; exact hh)
                      have hcl : clr i2 y < mk := Nat.lt_of_le_of_lt (clr_le _ _) hip
                      have han := andnot_pow hi62 (show y < 62 by omega)
                      have c8 := HR6.out.cell hcl
                      have l8 := HR6.out.lt
                      generalize clr i2 y = cy at *
                      obtain ⟨q1, hq1⟩ : ∃ q, lostK k st l d i2 j = q := ⟨_, rfl⟩
                      rw [hq1]
                      have HQ1 := Lib.hid hq1
                      clear hx hbit hq1 HTT
                      cases q1 with
                      | false =>
                        go_wp2_with fail
                        go_roundw
                        case rel => exact ⟨j + 1, by omega, by go_num, by rw [HS.out, HQ1.out, Bool.false_and], by trivial⟩
                        case measure => simp [intOf]; omega
                      | true =>
                        go_wp2_with fail
                        go_roundw
                        case rel => exact ⟨j + 1, by omega, by go_num, by rw [HS.out, HQ1.out, Bool.true_and], by trivial⟩
                        case measure => simp [intOf]; omega
                    · obtain rfl : j = r := by omega
                      have HLA := Lib.hid (lostK_all (k := k) (st := st) (l := l) (d := d) HRL.out)
                      rw [HLA.out]
                      have HOS := Lib.hid (outK_succ k st l d i2)
                      rw [HD2.out] at HOS
                      obtain ⟨q1, hq1⟩ : ∃ q, leastB k st l d i2 = q := ⟨_, rfl⟩
                      rw [hq1]
                      have HQ1 := Lib.hid hq1
                      clear hq1
                      cases q1 with
                      | false =>
                        have HE := Lib.hid (show outK k st l d (i2 + 1) = D2 by rw [HOS.out, HQ1.out]; simp)
                        go_wp2_with fail
                        go_roundw
                        case rel => exact ⟨i2 + 1, n2, p2, c2, hs, D2, by omega, by go_num, by omega, HD2L, HE, HX6⟩
                        case measure => simp [intOf]; omega
                      | true =>
                        have HE := Lib.hid (show outK k st l d (i2 + 1) = D2 ++ [chL d i2] by rw [HOS.out, HQ1.out]; simp)
                        have cX := HX6.out.cell
                        have fX := HX6.out.cold
                        have lX := HX6.out.lt
                        have HDI := Lib.hid (HDQ.out.below HX6.out.ro.own.below (Nat.le_refl _))
                        have KP := fun (wg : World) (hg : Below w6.heap.size w6 wg) => Lib.hid (pick_any _ d i2 wg (HDI.out.keep hg) (by rw [HDL.out]; omega) (by rw [HDL.out, HP.out]; exact hip))
                        obtain ⟨S, hS⟩ : ∃ S, chL d i2 = S := ⟨_, rfl⟩
                        rw [hS] at KP HE
                        have HSL := Lib.hid (show S.length ≤ 10 by rw [← hS]; have := chK_len d i2 d.length; have := HDL.out; unfold chL; omega)
                        obtain ⟨r2, hr2⟩ : ∃ r, S.length = r := ⟨_, rfl⟩
                        have HR2 := Lib.hid hr2
                        clear hS hr2
                        go_wp2_with fail
                        refine wp_region_late_tail (Below w6.heap.size w6) 3 5 (by kernel_rfl) ?_ (fun wa wb h1 h2 => h1.trans (h2.mono h1.size)) (Below.refl _ _) ?_
                        · kernel_rfl
                        simp only [List.take_succ_cons, List.take_zero, List.drop_succ_cons, List.drop_zero]
                        repeat first
                                 | (apply bRow_plain
                                    · exact rfl
                                    · intro wg hg
                                      ((have x1 := (hg.cell (p := ⟨b13, 0, none⟩) lX).trans cX))
                                      go_simp
                                      first
                                        | exact rfl
                                        | exact Below.refl _ _
                                        | exact ⟨Below.refl _ _, rfl⟩
                                        | ((fail))
                                    intro K hK
                                    go_simp
                                    refine hK _ ?_
                                    clear hK K)
                                 | (apply bRow_step
                                    · go_simp; done
                                    · intro wg hg
                                      ((have x1 := (hg.cell (p := ⟨b13, 0, none⟩) lX).trans cX))
                                      go_simp
                                      first
                                        | exact rfl
                                        | exact Below.refl _ _
                                        | exact ⟨Below.refl _ _, rfl⟩
                                        | ((fail))
                                    intro K hK
                                    go_simp
                                    refine hK _ ?_
                                    clear hK K)
                                 | (apply bRow_not
                                    · go_simp; done
                                    intro K hK
                                    go_simp
                                    refine hK _ ?_
                                    clear hK K)
                        refine bRow_nil ?_
                        refine sRow_step (V1 w6 S r2) rfl (V1.stable w6 S r2) (fun u w h => h.below) ?_ ?_
                        · intro wg hg
                          go_simp
                          refine (KP wg hg).out.mono ?_
                          rintro e w7 ⟨sp, sc, rfl, ho⟩
                          rw [HR2.out] at ho ⊢
                          exact ⟨_, rfl, sp, sc, rfl, ho.rd (by have := HSL.out; omega), fun _ b hb => Nat.le_trans hg.size (ho.row.lt b hb).1, hg.trans (ho.below.mono hg.size)⟩
                        rintro u ⟨wz, sp, sc, rfl, -⟩ K hK
                        go_simp
                        refine hK _ ?_
                        clear hK K
                        refine sRow_step (V2 w6 S r2 sp sc) rfl (V2.stable w6 S r2 sp sc) (fun u w h => by obtain ⟨bx, h1, h2, h3⟩ := h; exact h3.below) ?_ ?_
                        · intro wg hg
                          go_simp
                          exact V2.start hg
                        rintro u ⟨wz, bx, rfl, -⟩ K hK
                        go_simp
                        refine hK _ ?_
                        clear hK K
                        refine sRow_nil ?_
                        rintro w7 ⟨bx2, -, h2, sp2, sc2, he, h3, h4, h5⟩
                        cases he
                        have HX7 := Lib.hid (HX6.out.grow h5)
                        have HX7L := Lib.hid (show hs.length = n2 by rw [HX6.out.ro.len, HD2L.out])
                        refine wpList_more elt35 (E := eH) (l := hs) (m := [((sp, r2, sc) : Hd)]) _ _ rfl rfl rfl rfl HX7.out.ro.own h2 (by rw [HX7L.out]; simp; omega) ?_
                        intro p3 c3 w8 HO8 HG8
                        rw [HX7L.out] at HO8 HG8 ⊢
                        have HX8 := Lib.hid (HX7.out.put (x := (sp, r2, sc)) (r := S) h3 (fun h0 kk hk => ⟨fun e => by
                          have h6 := h4 h0 kk hk
                          have h7 := (HX6.out.ro.own.row.lt kk e).2
                          omega, by have h6 := h4 h0 kk hk; omega⟩) HO8.out HG8.out)
                        have f8 : w8.frozen? ⟨b13, 0, none⟩ = false := (World.frozen?_of_block (a := ⟨b13, 0, none⟩) (HG8.out.by_.block b13 HX7.out.lt (fun e => HX7.out.ne e.symm))).trans HX7.out.cold
                        have l8 : b13 < w8.heap.size := Nat.lt_of_lt_of_le HX7.out.lt HG8.out.by_.size
                        have c8 : w8.cell? ⟨b13, 0, none⟩ = some (.slice p2 n2 c2) := HG8.out.by_.cell HX7.out.cell (fun e => HX7.out.ne e.symm)
                        clear h2 h3 h4 h5 cX fX lX
                        go_wp2_with fail
                        go_roundw
                        case rel => exact ⟨i2 + 1, n2 + 1, p3, c3, _, D2 ++ [S], by omega, by go_num, by omega, Lib.hid (by simp [HD2L.out]), HE, HX8⟩
                        case measure => simp [intOf]; omega
                · obtain rfl : i2 = mk := by omega
                  have KS := Lib.hid (sort_cx HX.out (by omega))
                  have cX := HX.out.cell
                  have lX := HX.out.lt
                  go_wp2_with (first
                    | (go_at_call 38; (with_reducible refine KS.out.mono ?_); rintro e w9 ⟨rfl, c9, hs9, L9, ho, hpm, hpw⟩; have HO9 := Lib.hid ho; have HPM := Lib.hid hpm; have HPW := Lib.hid hpw; clear ho hpm hpw))
                  have HLL := Lib.hid (show L9 = L by
                    rw [← HCC.out]
                    have e2 : 2 ^ m = 2 ^ d.length := by rw [HDL.out]
                    rw [e2]
                    refine sorted_cuts HND.out (by rw [HDL.out]; omega) ?_ HPW.out
                    rw [HDL.out, HP.out, HD2.out]
                    exact HPM.out)
                  have HLN := Lib.hid (show L.length = n2 by rw [← HLL.out, HPM.out.length_eq, HD2L.out])
                  go_ret2
                  rw [HLL.out] at HO9
                  refine ⟨p2, c2, hs9, by rw [HLN.out]; rfl, ?_⟩
                  rw [HLN.out]
                  exact HO9.out.down HB0.out
end Go.Proofs.Ythljjllcdocfiaa
