/- The plain law of RepairqPlays: a queue and its model stay alike. -/
import Derived.Test.YtgnmolleaengaaaGreatTb
import Derived.Test.YtgnmolleaengaaaGreatUf
set_option linter.unusedVariables false
set_option linter.unusedSimpArgs false
set_option linter.unnecessarySimpa false
namespace Go.Proofs.YtgnmolleaengaaaGreat
open Go

/-- what shows of an entry -/
abbrev ab (x : En) : Jb × Bool × Bool := (x.j, x.run, x.held)
theorem ab_get {L M : List En} (h : L.map ab = M.map ab) {i : Nat} {x : En} (hx : L[i]? = some x) : ∃ y, M[i]? = some y ∧ ab y = ab x := by
  have e := congrArg (fun l => l[i]?) h
  simp only [List.getElem?_map, hx, Option.map_some] at e
  cases hm : M[i]? with
  | none => rw [hm] at e; cases e
  | some y => rw [hm] at e; exact ⟨y, rfl, (Option.some.inj e).symm⟩
theorem ab_len {L M : List En} (h : L.map ab = M.map ab) : L.length = M.length := by
  have := congrArg List.length h
  simpa using this
theorem ab_idx {L M : List En} (h : L.map ab = M.map ab) (k : Ky) : idxF k M = idxF k L := by
  have key : ∀ l : List En, l.findIdx? (keyB k) = (l.map ab).findIdx? (fun a => decide ((a.1.vol, a.1.frag) = k)) := fun l => by rw [List.findIdx?_map]; rfl
  unfold idxF
  rw [key L, key M, h]
theorem ab_erase {L M : List En} (h : L.map ab = M.map ab) (i : Nat) : (L.eraseIdx i).map ab = (M.eraseIdx i).map ab := by
  rw [List.eraseIdx_eq_take_drop_succ, List.eraseIdx_eq_take_drop_succ, List.map_append, List.map_append, List.map_take, List.map_take, List.map_drop, List.map_drop, h]
theorem ab_set {L M : List En} (h : L.map ab = M.map ab) (i : Nat) {x y : En} (e : ab x = ab y) : (L.set i x).map ab = (M.set i y).map ab := by
  rw [List.map_set, List.map_set, h, e]
theorem ab_sch : ∀ (L M : List En) (c : Int), L.map ab = M.map ab → (schL c L).map ab = (schL c M).map ab ∧ schS c L = schS c M ∧ schP c L = schP c M
  | [], [], c, _ => ⟨rfl, rfl, rfl⟩
  | [], _ :: _, _, h => by simp at h
  | _ :: _, [], _, h => by simp at h
  | x :: L, y :: M, c, h => by
    obtain ⟨xj, xna, xnc, xda, xdc, xr, xh⟩ := x
    obtain ⟨yj, yna, ync, yda, ydc, yr, yh⟩ := y
    rw [List.map_cons, List.map_cons] at h
    have h1 := (List.cons.inj h).1
    have h2 := (List.cons.inj h).2
    simp only [ab, Prod.mk.injEq] at h1
    obtain ⟨rfl, rfl, rfl⟩ := h1
    have hc : cnt c ⟨xj, yna, ync, yda, ydc, xr, xh⟩ = cnt c ⟨xj, xna, xnc, xda, xdc, xr, xh⟩ := rfl
    obtain ⟨i1, i2, i3⟩ := ab_sch L M (cnt c ⟨xj, xna, xnc, xda, xdc, xr, xh⟩) h2
    refine ⟨?_, ?_, ?_⟩
    · simp only [schL, List.map_cons, hc, i1]; rfl
    · simp only [schS, hc, i2]; rfl
    · simp only [schP, hc, i3]; rfl
theorem ab_filter {L M : List En} (h : L.map ab = M.map ab) (p : Bool × Bool → Bool) : (L.filter fun x => p (x.run, x.held)).map ab = (M.filter fun x => p (x.run, x.held)).map ab := by
  have key : ∀ l : List En, (l.filter fun x => p (x.run, x.held)).map ab = (l.map ab).filter (fun a => p a.2) := fun l => by rw [List.filter_map]; rfl
  rw [key L, key M, h]
theorem ab_slots {L M : List En} (h : L.map ab = M.map ab) (s : Int) : slotsL s M = slotsL s L := by
  have := congrArg List.length (ab_filter h fun a => a.2)
  simp only [List.length_map] at this
  unfold slotsL
  rw [show (L.filter En.held).length = (M.filter En.held).length from this]
theorem ab_keys {L M : List En} (h : L.map ab = M.map ab) : keysP En.run M = keysP En.run L := by
  have := congrArg (List.map fun a : Jb × Bool × Bool => (a.1.vol, a.1.frag)) (ab_filter h fun a => a.1)
  simp only [List.map_map] at this
  exact this.symm
theorem ab_jobs {L M : List En} (h : L.map ab = M.map ab) : M.map (·.j) = L.map (·.j) := by
  have := congrArg (List.map fun a : Jb × Bool × Bool => a.1) h
  simp only [List.map_map] at this
  exact this.symm
theorem ab_mem {L M : List En} (h : L.map ab = M.map ab) {y : En} (hy : y ∈ M) : ∃ x ∈ L, ab x = ab y := by
  have : ab y ∈ L.map ab := by rw [h]; exact List.mem_map.2 ⟨y, hy, rfl⟩
  obtain ⟨x, hx, e⟩ := List.mem_map.1 this
  exact ⟨x, hx, e⟩
theorem ab_hr {n : Nat} {L M : List En} {Sd : List Ky} (h : L.map ab = M.map ab) (hi : In2 n L Sd) : ∀ y ∈ M, y.held = true → y.run = true := fun y hy hh => by
  obtain ⟨x, hx, e⟩ := ab_mem h hy
  have e2 : x.run = y.run := congrArg (fun a : Jb × Bool × Bool => a.2.1) e
  have e3 : x.held = y.held := congrArg (fun a : Jb × Bool × Bool => a.2.2) e
  rw [← e2]
  exact hi.hr x hx (by rw [e3]; exact hh)
theorem ab_ok {L M : List En} (h : L.map ab = M.map ab) (hk : Kd L) : ∀ y ∈ M, OkJ y.j := fun y hy => by
  obtain ⟨x, hx, e⟩ := ab_mem h hy
  have e2 : x.j = y.j := congrArg (fun a : Jb × Bool × Bool => a.1) e
  rw [← e2]
  exact hk.ok x hx

theorem insM_cons (z : En) (M : List En) (y : En) : insM (z :: M) y = if beforeF z.j y.j then z :: insM M y else y :: z :: M := by
  unfold insM
  cases h : beforeF z.j y.j <;> simp [List.takeWhile, List.dropWhile, h]
theorem insM_sorted {M : List En} {y : En} (h : M.Pairwise (fun x y => ltE y x = false)) (ho : ∀ x ∈ M, OkJ x.j) (hy : OkJ y.j) : (insM M y).Pairwise (fun x y => ltE y x = false) := by
  induction M with
  | nil => exact List.pairwise_singleton _ _
  | cons z M ih =>
    have oz := ho z (by simp)
    rw [insM_cons]
    obtain ⟨h1, h2⟩ := List.pairwise_cons.1 h
    have nlt : ∀ {a b : En}, OkJ a.j → OkJ b.j → (ltE a b = false ↔ ¬ Lx a.j b.j) := fun {a b} oa ob => by
      rw [← ltE_iff oa ob]
      simp
    cases hb : beforeF z.j y.j with
    | true =>
      rw [if_pos rfl]
      have hzy : Lx z.j y.j := (ltE_iff (x := z) (y := y) oz hy).1 hb
      refine List.pairwise_cons.2 ⟨fun q hq => ?_, ih h2 fun x hx => ho x (by simp [hx])⟩
      rcases List.mem_cons.1 ((insM_perm M y).mem_iff.1 hq) with rfl | hq
      · exact (nlt hy oz).2 hzy.asymm
      · exact h1 q hq
    | false =>
      rw [if_neg (by simp)]
      have hzy : ¬ Lx z.j y.j := fun q => by
        have : beforeF z.j y.j = true := (ltE_iff (x := z) (y := y) oz hy).2 q
        rw [hb] at this
        cases this
      refine List.pairwise_cons.2 ⟨fun q hq => ?_, h⟩
      rcases List.mem_cons.1 hq with rfl | hq
      · exact (nlt oz hy).2 hzy
      · have oq := ho q (by simp [hq])
        have hqz : ¬ Lx q.j z.j := (nlt oq oz).1 (h1 q hq)
        exact (nlt oq hy).2 (Lx.eqv hqz hzy)
/-- sorted lists that show the same distinct entries show the same -/
theorem ab_sorted {A B : List En} (hk : Kd A) (hp : (A.map ab).Perm (B.map ab)) (sA : A.Pairwise (fun x y => ltE y x = false)) (sB : B.Pairwise (fun x y => ltE y x = false)) (oB : ∀ x ∈ B, OkJ x.j) : A.map ab = B.map ab := by
  have key : ∀ C : List En, (∀ x ∈ C, OkJ x.j) → C.Pairwise (fun x y => ltE y x = false) → (C.map ab).Pairwise (fun a b => ¬ Lx b.1 a.1) := fun C oC sC => by
    rw [List.pairwise_map]
    refine sC.imp_of_mem fun {a b} ha hb h => ?_
    intro q
    rw [(ltE_iff (oC b hb) (oC a ha)).2 q] at h
    cases h
  refine List.Perm.eq_of_pairwise (le := fun a b : Jb × Bool × Bool => ¬ Lx b.1 a.1) (fun a b ha hb h1 h2 => ?_) (key A hk.ok sA) (key B oB sB) hp
  obtain ⟨x, hx, rfl⟩ := List.mem_map.1 ha
  obtain ⟨y, hy, rfl⟩ := List.mem_map.1 (hp.mem_iff.2 hb)
  by_cases e : x.key = y.key
  · rw [hk.uniq hx hy e]
  · rcases Lx.total (a := x.j) (b := y.j) e with q | q
    · exact absurd q h2
    · exact absurd q h1
theorem set_perm {L : List En} {i : Nat} (hi : i < L.length) (y : En) : (L.set i y).Perm (y :: L.eraseIdx i) := by
  rw [List.set_eq_take_append_cons_drop, if_pos hi, List.eraseIdx_eq_take_drop_succ]
  exact List.perm_middle
theorem ab_put_new {n : Nat} {L L' M : List En} {Sd : List Ky} {y y' : En} (h : L.map ab = M.map ab) (hi : In2 n L Sd) (hi' : In2 n L' Sd) (e : ab y = ab y') (hp : L'.Perm (L ++ [y])) (oy : OkJ y'.j) : L'.map ab = (insM M y').map ab := by
  have sM := srt_of_jobs (ab_jobs h) hi.srt
  have oM := ab_ok h hi.kd
  refine ab_sorted hi'.kd ?_ hi'.srt (insM_sorted sM oM oy) (fun x hx => ?_)
  · refine (hp.map ab).trans (List.Perm.trans ?_ ((insM_perm M y').map ab).symm)
    have e2 : (L ++ [y]).map ab = M.map ab ++ [ab y'] := by rw [List.map_append, h, ← e]; rfl
    have e3 : (y' :: M).map ab = [ab y'] ++ M.map ab := rfl
    rw [e2, e3]
    exact List.perm_append_comm
  · rcases List.mem_cons.1 ((insM_perm M y').mem_iff.1 hx) with rfl | hx
    · exact oy
    · exact oM x hx
theorem ab_put_old {n : Nat} {L L' M : List En} {Sd : List Ky} {y y' : En} {i : Nat} (hil : i < L.length) (h : L.map ab = M.map ab) (hi : In2 n L Sd) (hi' : In2 n L' Sd) (e : ab y = ab y') (hp : L'.Perm (L.set i y)) (oy : OkJ y'.j) : L'.map ab = (insM (M.eraseIdx i) y').map ab := by
  have sM := srt_of_jobs (ab_jobs h) hi.srt
  have oM := ab_ok h hi.kd
  have oE : ∀ x ∈ M.eraseIdx i, OkJ x.j := fun x hx => oM x (List.mem_of_mem_eraseIdx hx)
  refine ab_sorted hi'.kd ?_ hi'.srt (insM_sorted (sM.sublist (List.eraseIdx_sublist M i)) oE oy) (fun x hx => ?_)
  · refine (hp.map ab).trans (((set_perm hil y).map ab).trans (List.Perm.trans ?_ ((insM_perm (M.eraseIdx i) y').map ab).symm))
    rw [List.map_cons, List.map_cons, ab_erase h, e]
  · rcases List.mem_cons.1 ((insM_perm (M.eraseIdx i) y').mem_iff.1 hx) with rfl | hx
    · exact oy
    · exact oE x hx
end Go.Proofs.YtgnmolleaengaaaGreat

/- same and SameFrac at equal jobs; alike. -/
namespace Go.Proofs.YtgnmolleaengaaaGreat
open Go Go.RowKit

/-- the two boxes and what they lead to -/
structure Sf (w : World) (b1 b2 : Nat) (c1 c2 : Array Value) (v1 v2 v3 v4 : Value) (N D : List Nat) (wx : World) : Prop where
  below : Below w.heap.size w wx
  x1 : Holds wx b1 c1
  x2 : Holds wx b2 c2
  r1 : Rd eU wx v1 N
  r2 : Rd eU wx v2 D
  r3 : Rd eU wx v3 N
  r4 : Rd eU wx v4 D
theorem Sf.keep {w wx wy : World} {b1 b2 : Nat} {c1 c2 : Array Value} {v1 v2 v3 v4 : Value} {N D : List Nat} (h : Sf w b1 b2 c1 c2 v1 v2 v3 v4 N D wx) (hb : Below wx.heap.size wx wy) : Sf w b1 b2 c1 c2 v1 v2 v3 v4 N D wy :=
  ⟨h.below.trans (hb.mono h.below.size), h.x1.keep hb, h.x2.keep hb, h.r1.keep hb, h.r2.keep hb, h.r3.keep hb, h.r4.keep hb⟩

set_option maxRecDepth 20000 in
set_option maxHeartbeats 4000000 in
theorem samefrac_as {w : World} {neg : Bool} {a1 b1 a2 b2 : Option Addr} {n m p1 q1 p2 q2 : Nat} {N D : List Nat} (h1 : Rd eU w (.slice a1 n p1) N) (h2 : Rd eU w (.slice b1 m q1) D) (h3 : Rd eU w (.slice a2 n p2) N) (h4 : Rd eU w (.slice b2 m q2) D) :
    Calls Tryz.prog 69 #[fv neg (.slice a1 n p1) (.slice b1 m q1), fv neg (.slice a2 n p2) (.slice b2 m q2)] w fun e w' => e = .returned (.bool true) ∧ Below w.heap.size w w' := by
  have hM := ((Mm.start (S := []) w (by simp)).push w.heap.size #[.bool neg, .slice a1 n p1, .slice b1 m q1] 27 rfl).push (w.heap.size + 1) #[.bool neg, .slice a2 n p2, .slice b2 m q2] 27 (by simp)
  have hB0 : Below w.heap.size w ((w.alloc (.cells #[.bool neg, .slice a1 n p1, .slice b1 m q1] 27)).alloc (.cells #[.bool neg, .slice a2 n p2, .slice b2 m q2] 27)) := hM.only.below (by simp) (Nat.le_refl _)
  have HS := Lib.hid (show Sf w w.heap.size (w.heap.size + 1) #[.bool neg, .slice a1 n p1, .slice b1 m q1] #[.bool neg, .slice a2 n p2, .slice b2 m q2] (.slice a1 n p1) (.slice b1 m q1) (.slice a2 n p2) (.slice b2 m q2) N D ((w.alloc (.cells #[.bool neg, .slice a1 n p1, .slice b1 m q1] 27)).alloc (.cells #[.bool neg, .slice a2 n p2, .slice b2 m q2] 27)) from
    ⟨hB0, (Holds.new w _ 27).keep (below_alloc _ _), by
      have := Holds.new (w.alloc (.cells #[.bool neg, .slice a1 n p1, .slice b1 m q1] 27)) #[.bool neg, .slice a2 n p2, .slice b2 m q2] 27
      simpa using this, h1.below hB0 (Nat.le_refl _), h2.below hB0 (Nat.le_refl _), h3.below hB0 (Nat.le_refl _), h4.below hB0 (Nat.le_refl _)⟩)
  have HN := Lib.hid h1.caps.2.2
  have HD := Lib.hid h2.caps.2.2
  have k1 := h1.caps.1
  have k2 := h1.caps.2.1
  have k3 := h2.caps.1
  have k4 := h2.caps.2.1
  have k5 := h3.caps.1
  have k6 := h3.caps.2.1
  have k7 := h4.caps.1
  have k8 := h4.caps.2.1
  have hg : (neg != neg) = false := by simp
  have hnn : ((n : Int) != (n : Int)) = false := by simp
  have hmm : ((m : Int) != (m : Int)) = false := by simp
  clear h1 h2 h3 h4 hM hB0
  go_enter Tryz.func69, Tryz.ntmps69
  obtain ⟨s0, s1, s2, -⟩ := HS.out.x1.lay3
  obtain ⟨t0, t1, t2, -⟩ := HS.out.x2.lay3
  go_wp2_with fail
  clear s0 s1 s2 t0 t1 t2
  go_loopw [5] (fun s wr => ∃ i : Nat, s = .int .i64 i ∧ i ≤ n ∧ Hid (Sf w w.heap.size (w.heap.size + 1) #[.bool neg, .slice a1 n p1, .slice b1 m q1] #[.bool neg, .slice a2 n p2, .slice b2 m q2] (.slice a1 n p1) (.slice b1 m q1) (.slice a2 n p2) (.slice b2 m q2) N D wr)) (fun s _ => n - (intOf s).toNat)
  case atStart => exact ⟨0, rfl, Nat.zero_le _, HS⟩
  case round =>
    rename World => wr
    clear HS
    obtain ⟨i, rfl, hi, HS⟩ := hrel
    obtain ⟨s0, s1, s2, -⟩ := HS.out.x1.lay3
    obtain ⟨t0, t1, t2, -⟩ := HS.out.x2.lay3
    by_cases hin : i < n
    · obtain ⟨x, hx⟩ : ∃ x, N[i]? = some x := ⟨N[i]'(by have := HN.out; omega), by simp⟩
      obtain ⟨g1, o1, rfl, l1, e1⟩ := HS.out.r1.limb hx
      obtain ⟨g2, o2, rfl, l2, e2⟩ := HS.out.r3.limb hx
      have E1 := Lib.hid e1
      have E2 := Lib.hid e2
      have L1 := Lib.hid l1
      have L2 := Lib.hid l2
      have hib : (i : Int) < (n : Int) := by omega
      have hxx : ((x : Int) != (x : Int)) = false := by simp
      clear hx e1 e2 l1 l2
      go_wp2_with fail
      clear s0 s1 s2 t0 t1 t2
      refine wp_region_grow (Below wr.heap.size wr) (by kernel_rfl) (by kernel_rfl) (Below.refl _ _).drew ?_
      repeat first
               | (apply gRow_plain
                  · exact rfl
                  · intro wg hg
                    ((obtain ⟨s0, s1, s2, -⟩ := (HS.out.keep hg).x1.lay3; obtain ⟨t0, t1, t2, -⟩ := (HS.out.keep hg).x2.lay3; have z1 := (hg.cell (p := ⟨g1, o1 + i, none⟩) L1.out).trans E1.out; have z2 := (hg.cell (p := ⟨g2, o2 + i, none⟩) L2.out).trans E2.out))
                    go_simp
                    first
                      | exact rfl
                      | exact hg
                      | exact ⟨hg, rfl⟩
                      | ((fail))
                  intro K hK
                  go_simp
                  refine hK _ ?_
                  clear hK K)
               | (apply gRow_step
                  · go_simp; done
                  · intro wg hg
                    ((obtain ⟨s0, s1, s2, -⟩ := (HS.out.keep hg).x1.lay3; obtain ⟨t0, t1, t2, -⟩ := (HS.out.keep hg).x2.lay3; have z1 := (hg.cell (p := ⟨g1, o1 + i, none⟩) L1.out).trans E1.out; have z2 := (hg.cell (p := ⟨g2, o2 + i, none⟩) L2.out).trans E2.out))
                    go_simp
                    first
                      | exact rfl
                      | exact hg
                      | exact ⟨hg, rfl⟩
                      | ((fail))
                  intro K hK
                  go_simp
                  refine hK _ ?_
                  clear hK K)
               | (apply gRow_not
                  · go_simp; done
                  intro K hK
                  go_simp
                  refine hK _ ?_
                  clear hK K)
      refine gRow_nil ?_
      intro wy hby
      have HS2 := Lib.hid (HS.out.keep hby)
      clear hby
      go_wp2_with fail
      go_roundw
      case rel => exact ⟨i + 1, by go_num, by omega, HS2⟩
      case measure => simp [intOf]; omega
    · obtain rfl : i = n := by omega
      go_wp2_with fail
      clear s0 s1 s2 t0 t1 t2
      go_loopw [6] (fun s wr => ∃ k : Nat, s = .int .i64 k ∧ k ≤ m ∧ Hid (Sf w w.heap.size (w.heap.size + 1) #[.bool neg, .slice a1 i p1, .slice b1 m q1] #[.bool neg, .slice a2 i p2, .slice b2 m q2] (.slice a1 i p1) (.slice b1 m q1) (.slice a2 i p2) (.slice b2 m q2) N D wr)) (fun s _ => m - (intOf s).toNat)
      case atStart => exact ⟨0, rfl, Nat.zero_le _, HS⟩
      case round =>
        rename World => wr2
        clear HS
        obtain ⟨k, rfl, hk, HS⟩ := hrel
        obtain ⟨s0, s1, s2, -⟩ := HS.out.x1.lay3
        obtain ⟨t0, t1, t2, -⟩ := HS.out.x2.lay3
        by_cases hkm : k < m
        · obtain ⟨x, hx⟩ : ∃ x, D[k]? = some x := ⟨D[k]'(by have := HD.out; omega), by simp⟩
          obtain ⟨g1, o1, rfl, l1, e1⟩ := HS.out.r2.limb hx
          obtain ⟨g2, o2, rfl, l2, e2⟩ := HS.out.r4.limb hx
          have E1 := Lib.hid e1
          have E2 := Lib.hid e2
          have L1 := Lib.hid l1
          have L2 := Lib.hid l2
          have hib : (k : Int) < (m : Int) := by omega
          have hxx : ((x : Int) != (x : Int)) = false := by simp
          clear hx e1 e2 l1 l2
          go_wp2_with fail
          clear s0 s1 s2 t0 t1 t2
          refine wp_region_grow (Below wr2.heap.size wr2) (by kernel_rfl) (by kernel_rfl) (Below.refl _ _).drew ?_
          repeat first
                   | (apply gRow_plain
                      · exact rfl
                      · intro wg hg
                        ((obtain ⟨s0, s1, s2, -⟩ := (HS.out.keep hg).x1.lay3; obtain ⟨t0, t1, t2, -⟩ := (HS.out.keep hg).x2.lay3; have z1 := (hg.cell (p := ⟨g1, o1 + k, none⟩) L1.out).trans E1.out; have z2 := (hg.cell (p := ⟨g2, o2 + k, none⟩) L2.out).trans E2.out))
                        go_simp
                        first
                          | exact rfl
                          | exact hg
                          | exact ⟨hg, rfl⟩
                          | ((fail))
                      intro K hK
                      go_simp
                      refine hK _ ?_
                      clear hK K)
                   | (apply gRow_step
                      · go_simp; done
                      · intro wg hg
                        ((obtain ⟨s0, s1, s2, -⟩ := (HS.out.keep hg).x1.lay3; obtain ⟨t0, t1, t2, -⟩ := (HS.out.keep hg).x2.lay3; have z1 := (hg.cell (p := ⟨g1, o1 + k, none⟩) L1.out).trans E1.out; have z2 := (hg.cell (p := ⟨g2, o2 + k, none⟩) L2.out).trans E2.out))
                        go_simp
                        first
                          | exact rfl
                          | exact hg
                          | exact ⟨hg, rfl⟩
                          | ((fail))
                      intro K hK
                      go_simp
                      refine hK _ ?_
                      clear hK K)
                   | (apply gRow_not
                      · go_simp; done
                      intro K hK
                      go_simp
                      refine hK _ ?_
                      clear hK K)
          refine gRow_nil ?_
          intro wy hby
          have HS2 := Lib.hid (HS.out.keep hby)
          clear hby
          go_wp2_with fail
          go_roundw
          case rel => exact ⟨k + 1, by go_num, by omega, HS2⟩
          case measure => simp [intOf]; omega
        · obtain rfl : k = m := by omega
          go_wp2_with fail
          go_ret
          exact ⟨rfl, HS.out.below⟩

set_option maxRecDepth 20000 in
set_option maxHeartbeats 4000000 in
theorem same_as {w : World} {j : Jb} {a1 b1 a2 b2 : Option Addr} {p1 q1 p2 q2 : Nat} (h1 : Rd eU w (.slice a1 (limb j.n).length p1) (limb j.n)) (h2 : Rd eU w (.slice b1 (limb j.d).length q1) (limb j.d)) (h3 : Rd eU w (.slice a2 (limb j.n).length p2) (limb j.n)) (h4 : Rd eU w (.slice b2 (limb j.d).length q2) (limb j.d)) :
    Calls Tryz.prog 45 #[jv j (.slice a1 (limb j.n).length p1) (.slice b1 (limb j.d).length q1), jv j (.slice a2 (limb j.n).length p2) (.slice b2 (limb j.d).length q2)] w fun e w' => e = .returned (.bool true) ∧ Below w.heap.size w w' := by
  have hM := ((Mm.start (S := []) w (by simp)).push w.heap.size (jc j (.slice a1 (limb j.n).length p1) (.slice b1 (limb j.d).length q1)) 29 rfl).push (w.heap.size + 1) (jc j (.slice a2 (limb j.n).length p2) (.slice b2 (limb j.d).length q2)) 29 (by simp)
  have HM := Lib.hid hM
  have hB0 := hM.only.below (B := w.heap.size) (by simp) (Nat.le_refl _)
  have HB0 := Lib.hid hB0
  have KF := Lib.hid (samefrac_as (neg := false) (h1.below hB0 (Nat.le_refl _)) (h2.below hB0 (Nat.le_refl _)) (h3.below hB0 (Nat.le_refl _)) (h4.below hB0 (Nat.le_refl _)))
  obtain ⟨x1, x2, x3, x4, n, d⟩ := j
  have e1 : (x1 == x1) = true := by simp
  have e2 : (x2 == x2) = true := by simp
  have e3 : (x3 == x3) = true := by simp
  have e4 : (x4 == x4) = true := by simp
  clear h1 h2 h3 h4 hM hB0
  go_enter Tryz.func45, Tryz.ntmps45
  obtain ⟨t0, t1, t2, t3, t4, t5, t6, -⟩ := HM.out.lay7 0 rfl
  obtain ⟨s0, s1, s2, s3, s4, s5, s6, -⟩ := HM.out.lay7 1 rfl
  go_wp2_with (go_at_call 69; (with_reducible refine KF.out.mono ?_); rintro e w1 ⟨rfl, hb⟩; have HB1 := Lib.hid (HB0.out.trans (hb.mono HB0.out.size)); clear hb)
  go_ret
  exact ⟨rfl, HB1.out⟩
end Go.Proofs.YtgnmolleaengaaaGreat

/- alike: a queue and a model that show the same. -/
namespace Go.Proofs.YtgnmolleaengaaaGreat
open Go Go.RowKit

theorem job_cells {w : World} {p : Option Addr} {n c : Nat} {M : List En} (h : Rd eJ w (.slice p n c) M) {k : Nat} {y : En} (hy : M[k]? = some y) : ∃ b off, p = some ⟨b, off, none⟩ ∧ b < w.heap.size ∧ ∀ wx, Below w.heap.size w wx → wx.cell? ⟨b, off + k * 7, none⟩ = some (.int .i64 y.j.vol) ∧ wx.cell? ⟨b, off + k * 7 + 1, none⟩ = some (.int .i64 y.j.frag) ∧ wx.cell? ⟨b, off + k * 7 + 2, none⟩ = some (.int .i64 y.j.cls) ∧ wx.cell? ⟨b, off + k * 7 + 3, none⟩ = some (.bool false) ∧ wx.cell? ⟨b, off + k * 7 + 4, none⟩ = some y.num ∧ wx.cell? ⟨b, off + k * 7 + 5, none⟩ = some y.den ∧ wx.cell? ⟨b, off + k * 7 + 6, none⟩ = some (.int .i64 y.j.rem) := by
  obtain ⟨b, off, e, hb, hc⟩ := h.cell hy
  refine ⟨b, off, e, hb, fun wx hw => ⟨?_, ?_, ?_, ?_, ?_, ?_, ?_⟩⟩
  · exact (hw.cell (p := ⟨b, off + k * 7, none⟩) hb).trans (hc 0 _ rfl)
  · exact (hw.cell (p := ⟨b, off + k * 7 + 1, none⟩) hb).trans (hc 1 _ rfl)
  · exact (hw.cell (p := ⟨b, off + k * 7 + 2, none⟩) hb).trans (hc 2 _ rfl)
  · exact (hw.cell (p := ⟨b, off + k * 7 + 3, none⟩) hb).trans (hc 3 _ rfl)
  · exact (hw.cell (p := ⟨b, off + k * 7 + 4, none⟩) hb).trans (hc 4 _ rfl)
  · exact (hw.cell (p := ⟨b, off + k * 7 + 5, none⟩) hb).trans (hc 5 _ rfl)
  · exact (hw.cell (p := ⟨b, off + k * 7 + 6, none⟩) hb).trans (hc 6 _ rfl)
theorem nth_j {M L : List En} (h : M.map (·.j) = L.map (·.j)) {k : Nat} {x : En} (hx : L[k]? = some x) : ∃ y, M[k]? = some y ∧ y.j = x.j := by
  have e := congrArg (fun l => l[k]?) h
  simp only [List.getElem?_map, hx, Option.map_some] at e
  cases hm : M[k]? with
  | none => rw [hm] at e; cases e
  | some y => rw [hm] at e; exact ⟨y, rfl, Option.some.inj e⟩

set_option maxRecDepth 20000 in
set_option maxHeartbeats 4000000 in
theorem alike_as {B qb rb : Nat} {slots : Int} {L M : List En} {w : World} (hq : Qp B qb slots L w) (hr : Rq rb slots M w) (h : L.map ab = M.map ab) (hl : L.length ≤ 1000) :
    Calls Tryz.prog 21 #[.pointer (some ⟨qb, 0, none⟩), .pointer (some ⟨rb, 0, none⟩)] w fun e w' => e = .returned (.bool true) ∧ Below w.heap.size w w' := by
  obtain ⟨n, hn⟩ : ∃ n, L.length = n := ⟨_, rfl⟩
  have HN := Lib.hid hn
  have HM := Lib.hid (show M.length = n by rw [← ab_len h, hn])
  have HQ := Lib.hid hq
  have HR := Lib.hid hr
  have HKY := Lib.hid (ab_keys h)
  have HJS := Lib.hid (ab_jobs h)
  have hnn : ((n : Int) != (n : Int)) = false := by simp
  have KJ := Lib.hid (jobs_as hq hl)
  rw [hn] at hl
  clear hq hr h hn
  unfold JobsPost at KJ
  rw [HN.out] at KJ
  go_enter Tryz.func21, Tryz.ntmps21
  go_wp2_with (first
    | (go_at_call 17; (with_reducible refine KJ.out.mono ?_); rintro e w1 ⟨pa, ca, J1, rfl, hr1, hj1, hb⟩; have HB1 := Lib.hid hb; have HA1 := Lib.hid hr1; have HJ1 := Lib.hid hj1; have HQ1 := Lib.hid (HQ.out.keep hb); have HR1 := Lib.hid (HR.out.keep hb); have KR := Lib.hid (rjobs_as HR1.out (by have := HM.out; omega)); unfold JobsPost at KR; rw [HM.out] at KR; clear hr1 hj1 hb)
    | (go_at_call 43; (with_reducible refine KR.out.mono ?_); rintro e w2 ⟨pb, cb, J2, rfl, hr2, hj2, hb⟩; have HB2 := Lib.hid (HB1.out.trans (hb.mono HB1.out.size)); have HA2 := Lib.hid (HA1.out.keep hb); have HJ2 := Lib.hid (HJ1.out.keep hb); have HC2 := Lib.hid hr2; have HI2 := Lib.hid hj2; have HQ2 := Lib.hid (HQ1.out.keep hb); have HR2 := Lib.hid (HR1.out.keep hb); clear hr2 hj2 hb)
    | (go_at_call 18; (with_reducible refine (running_as HQ2.out (by have := HN.out; omega)).mono ?_); rintro e w3 ⟨pk, ck, K1, rfl, hp1, hs1, hk1, hb⟩; have HP1 := Lib.hid hp1; have HS1 := Lib.hid hs1; have HK1 := Lib.hid hk1; have HB3 := Lib.hid (HB2.out.trans (hb.mono HB2.out.size)); have HR3 := Lib.hid (HR2.out.keep hb); have HY3 := Lib.hid hb; clear hp1 hs1 hk1 hb)
    | (go_at_call 44; (with_reducible refine (rrunning_as HR3.out (by have := HM.out; omega)).mono ?_); rintro e w4 ⟨pk2, ck2, K2, rfl, hp2, hs2, hk2, hb⟩; rw [HKY.out] at hp2; obtain rfl : K2 = K1 := keys_same hp2 HP1.out hs2 HS1.out; have HK2 := Lib.hid hk2.rd; have HK3 := Lib.hid (HK1.out.rd.keep hb); have HB4 := Lib.hid (HB3.out.trans (hb.mono HB3.out.size)); have HY4 := Lib.hid (HY3.out.trans (hb.mono HY3.out.size)); clear hp2 hs2 hk2 hb)
    | (go_at_call 26; (with_reducible refine (samekeys_as _ _ _ _ HK3.out HK2.out).mono ?_); rintro e w5 ⟨rfl, hb⟩; have HB5 := Lib.hid (HB4.out.trans (hb.mono HB4.out.size)); have HY5 := Lib.hid (HY4.out.trans (hb.mono HY4.out.size)); clear hb))
  have ca1 := HA2.out.rd.caps
  have ca2 := ca1.1
  have ca3 := ca1.2.1
  have cb1 := HC2.out.rd.caps
  have cb2 := cb1.1
  have cb3 := cb1.2.1
  clear ca1 cb1
  go_loopw [7] (fun s wr => ∃ i : Nat, s = .int .i64 i ∧ i ≤ n ∧ Hid (Below w2.heap.size w2 wr)) (fun s _ => n - (intOf s).toNat)
  case atStart => exact ⟨0, rfl, Nat.zero_le _, HY5⟩
  case round =>
    rename World => wr
    obtain ⟨i, rfl, hi, HY⟩ := hrel
    by_cases hin : i < n
    · obtain ⟨x, hx⟩ : ∃ x, L[i]? = some x := ⟨L[i]'(by have := HN.out; omega), by simp⟩
      obtain ⟨x2, hx2, hj⟩ := nth_j HJS.out hx
      obtain ⟨y1, hy1, hj1⟩ := nth_j HJ2.out.eq hx
      obtain ⟨y2, hy2, hj2⟩ := nth_j HI2.out.eq hx2
      obtain ⟨g1, o1, rfl, hg1, e1⟩ := job_cells HA2.out.rd hy1
      obtain ⟨g2, o2, rfl, hg2, e2⟩ := job_cells HC2.out.rd hy2
      have f1 := HJ2.out.frac _ (List.mem_of_getElem? hy1)
      have f2 := HI2.out.frac _ (List.mem_of_getElem? hy2)
      have hib : (i : Int) < (n : Int) := by omega
      obtain ⟨j1, na1, nc1, da1, dc1, r1, h1⟩ := y1
      obtain ⟨j2, na2, nc2, da2, dc2, r2, h2⟩ := y2
      obtain rfl : j1 = j2 := by
        have q1 : j1 = x.j := hj1
        have q2 : j2 = x2.j := hj2
        rw [q1, q2, hj]
      have KS : ∀ wz, Hid (Below w2.heap.size w2 wz → Calls Tryz.prog 45 #[jv j1 (.slice na1 (limb j1.n).length nc1) (.slice da1 (limb j1.d).length dc1), jv j1 (.slice na2 (limb j1.n).length nc2) (.slice da2 (limb j1.d).length dc2)] wz fun e w' => e = .returned (.bool true) ∧ Below wz.heap.size wz w') := fun wz => Lib.hid fun hb => same_as (f1.1.keep hb).rd (f1.2.keep hb).rd (f2.1.keep hb).rd (f2.2.keep hb).rd
      have E1 := Lib.hid e1
      have E2 := Lib.hid e2
      obtain ⟨a1, a2, a3, a4, n1, d1⟩ := j1
      clear hx hx2 hy1 hy2 hj hj1 hj2 e1 e2 f1 f2 hg1 hg2
      go_wp2_with fail
      refine wp_region_grow (Below wr.heap.size wr) (by kernel_rfl) (by kernel_rfl) (Below.refl _ _).drew ?_
      repeat first
               | (apply gRow_plain
                  · exact rfl
                  · intro wg hg
                    ((obtain ⟨s0, s1, s2, s3, s4, s5, s6⟩ := E1.out _ (HY.out.trans (hg.mono HY.out.size)); obtain ⟨t0, t1, t2, t3, t4, t5, t6⟩ := E2.out _ (HY.out.trans (hg.mono HY.out.size))))
                    go_simp
                    first
                      | exact rfl
                      | exact hg
                      | exact ⟨hg, rfl⟩
                      | ((first
| ((with_reducible refine ((KS _).out (HY.out.trans (hg.mono HY.out.size))).mono ?_); rintro e w' ⟨rfl, hb⟩; exact ⟨rfl, hg.trans (hb.mono hg.size)⟩)))
                  intro K hK
                  go_simp
                  refine hK _ ?_
                  clear hK K)
               | (apply gRow_step
                  · go_simp; done
                  · intro wg hg
                    ((obtain ⟨s0, s1, s2, s3, s4, s5, s6⟩ := E1.out _ (HY.out.trans (hg.mono HY.out.size)); obtain ⟨t0, t1, t2, t3, t4, t5, t6⟩ := E2.out _ (HY.out.trans (hg.mono HY.out.size))))
                    go_simp
                    first
                      | exact rfl
                      | exact hg
                      | exact ⟨hg, rfl⟩
                      | ((first
| ((with_reducible refine ((KS _).out (HY.out.trans (hg.mono HY.out.size))).mono ?_); rintro e w' ⟨rfl, hb⟩; exact ⟨rfl, hg.trans (hb.mono hg.size)⟩)))
                  intro K hK
                  go_simp
                  refine hK _ ?_
                  clear hK K)
               | (apply gRow_not
                  · go_simp; done
                  intro K hK
                  go_simp
                  refine hK _ ?_
                  clear hK K)
      refine gRow_nil ?_
      intro wy hby
      have HYY := Lib.hid (HY.out.trans (hby.mono HY.out.size))
      clear hby
      go_wp2_with fail
      go_roundw
      case rel => exact ⟨i + 1, by go_num, by omega, HYY⟩
      case measure => simp [intOf]; omega
    · obtain rfl : i = n := by omega
      go_wp2_with fail
      go_ret
      exact ⟨rfl, HB2.out.trans (HY.out.mono HB2.out.size)⟩
end Go.Proofs.YtgnmolleaengaaaGreat
