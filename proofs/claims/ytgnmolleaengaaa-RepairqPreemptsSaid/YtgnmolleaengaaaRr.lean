/- The plain law of RepairqPreempts. -/
import Derived.Test.YtgnmolleaengaaaRp
import Derived.Deep.CutRange
set_option linter.unusedVariables false
set_option linter.unusedSimpArgs false
set_option linter.unnecessarySimpa false
namespace Go.Proofs.Ytgnmolleaengaaa
open Go

/-- distinct keys in range -/
structure Kd (L : List En) : Prop where
  nd : (L.map En.key).Nodup
  ok : ∀ x ∈ L, OkJ x.j
theorem nodup_le : ∀ (n : Nat) (l : List Nat), l.Nodup → (∀ x ∈ l, x < n) → l.length ≤ n
  | 0, l, _, h => by
    match l, h with
    | [], _ => simp
    | x :: _, h => exact absurd (h x (by simp)) (by omega)
  | n + 1, l, hn, h => by
    have h1 : (l.erase n).Nodup := hn.erase n
    have h2 := nodup_le n (l.erase n) h1 fun x hx => by
      have := h x (List.mem_of_mem_erase hx)
      have hne : x ≠ n := fun e => by
        subst e
        exact absurd hx (by rw [hn.mem_erase_iff]; simp)
      omega
    rw [List.length_erase] at h2
    split at h2 <;> omega
theorem Kd.len {L : List En} (h : Kd L) : L.length ≤ 9 := by
  have h1 : (L.map fun x => (x.j.vol * 3 + x.j.frag).toNat).Nodup := by
    have := h.nd
    rw [List.nodup_iff_pairwise_ne, List.pairwise_map] at this ⊢
    refine this.imp_of_mem fun {a b} ha hb hne e => hne ?_
    obtain ⟨⟨v1, v2⟩, ⟨f1, f2⟩, -⟩ := h.ok a ha
    obtain ⟨⟨v3, v4⟩, ⟨f3, f4⟩, -⟩ := h.ok b hb
    show (a.j.vol, a.j.frag) = (b.j.vol, b.j.frag)
    rw [show a.j.vol = b.j.vol by omega, show a.j.frag = b.j.frag by omega]
  have := nodup_le 9 _ h1 fun x hx => by
    obtain ⟨a, ha, rfl⟩ := List.mem_map.1 hx
    obtain ⟨⟨v1, v2⟩, ⟨f1, f2⟩, -⟩ := h.ok a ha
    show (a.j.vol * 3 + a.j.frag).toNat < 9
    omega
  simpa using this
theorem Kd.perm {L M : List En} (h : Kd L) (hp : M.Perm L) : Kd M := ⟨(hp.map En.key).nodup_iff.2 h.nd, fun x hx => h.ok x (hp.mem_iff.1 hx)⟩
theorem Kd.set {L : List En} (h : Kd L) {i : Nat} {x y : En} (hx : L[i]? = some x) (hy : y.key = x.key) (ho : OkJ y.j) : Kd (L.set i y) := by
  have e : (L.set i y).map En.key = L.map En.key := by
    rw [List.map_set, hy]
    apply List.ext_getElem?
    intro t
    rw [List.getElem?_set]
    split
    · rename_i ht
      subst ht
      have hl := (List.getElem?_eq_some_iff.1 hx).1
      simp [hl, (List.getElem?_eq_some_iff.1 hx).2]
    · rfl
  exact ⟨by rw [e]; exact h.nd, fun z hz => by
    rcases List.mem_or_eq_of_mem_set hz with hz | rfl
    · exact h.ok z hz
    · exact ho⟩
theorem Kd.snoc {L : List En} (h : Kd L) {y : En} (hy : idxF y.key L = -1) (ho : OkJ y.j) : Kd (L ++ [y]) := by
  have hno : ∀ x ∈ L, x.key ≠ y.key := by
    unfold idxF at hy
    split at hy
    · omega
    · rename_i hf
      intro x hx e
      have := List.findIdx?_eq_none_iff.1 hf x hx
      rw [keyB, decide_eq_false_iff_not] at this
      exact this e
  refine ⟨?_, fun z hz => ?_⟩
  · rw [List.map_append, List.nodup_append]
    refine ⟨h.nd, by simp, ?_⟩
    intro a ha b hb
    obtain ⟨x, hx, rfl⟩ := List.mem_map.1 ha
    have hb' : b = y.key := by simpa using hb
    rw [hb']
    exact hno x hx
  · rcases List.mem_append.1 hz with hz | hz
    · exact h.ok z hz
    · rw [List.mem_singleton.1 hz]; exact ho
theorem Kd.erase {L : List En} (h : Kd L) (i : Nat) : Kd (L.eraseIdx i) := ⟨((List.eraseIdx_sublist L i).map En.key).nodup h.nd, fun x hx => h.ok x (List.mem_of_mem_eraseIdx hx)⟩

/-- no entry is sealed, at most one runs -/
structure In1 (L : List En) : Prop where
  kd : Kd L
  free : ∀ x ∈ L, x.held = false
  one : (L.filter En.run).length ≤ 1
theorem In1.nil : In1 [] := ⟨⟨List.nodup_nil, by simp⟩, by simp, by simp⟩
theorem In1.perm {L M : List En} (h : In1 L) (hp : M.Perm L) : In1 M := ⟨h.kd.perm hp, fun x hx => h.free x (hp.mem_iff.1 hx), by rw [(hp.filter _).length_eq]; exact h.one⟩
theorem In1.erase {L : List En} (h : In1 L) (i : Nat) : In1 (L.eraseIdx i) :=
  ⟨h.kd.erase i, fun x hx => h.free x (List.mem_of_mem_eraseIdx hx), Nat.le_trans ((List.eraseIdx_sublist L i).filter _).length_le h.one⟩
theorem In1.snoc {L : List En} (h : In1 L) {y : En} (hy : idxF y.key L = -1) (ho : OkJ y.j) (hr : y.run = false) (hh : y.held = false) : In1 (L ++ [y]) := by
  refine ⟨h.kd.snoc hy ho, fun z hz => ?_, ?_⟩
  · rcases List.mem_append.1 hz with hz | hz
    · exact h.free z hz
    · rw [List.mem_singleton.1 hz]; exact hh
  · rw [List.filter_append]
    simpa [hr] using h.one
theorem filter_set_len {L : List En} {i : Nat} {x y : En} (hx : L[i]? = some x) (hr : y.run = x.run) : ((L.set i y).filter En.run).length = (L.filter En.run).length := by
  induction L generalizing i with
  | nil => simp at hx
  | cons z L ih =>
    cases i with
    | zero =>
      simp at hx
      subst hx
      rw [List.set_cons_zero, List.filter_cons, List.filter_cons, hr]
      split <;> simp
    | succ i =>
      rw [List.set_cons_succ, List.filter_cons, List.filter_cons]
      have := ih (i := i) (by simpa using hx)
      split <;> simp [this]
theorem In1.set {L : List En} (h : In1 L) {i : Nat} {x y : En} (hx : L[i]? = some x) (hy : y.key = x.key) (ho : OkJ y.j) (hr : y.run = x.run) (hh : y.held = x.held) : In1 (L.set i y) := by
  refine ⟨h.kd.set hx hy ho, fun z hz => ?_, ?_⟩
  · rcases List.mem_or_eq_of_mem_set hz with hz | rfl
    · exact h.free z hz
    · rw [hh]; exact h.free x (List.mem_of_getElem? hx)
  · rw [filter_set_len hx hr]
    exact h.one

/-- Schedule with one slot and no sealed entry -/
theorem sch_off : ∀ (L : List En), (∀ x ∈ L, x.held = false) → schL 0 L = L.map (setRun false) ∧ schS 0 L = [] ∧ schP 0 L = keysP En.run L
  | [], _ => ⟨rfl, rfl, rfl⟩
  | x :: L, h => by
    have hh := h x (by simp)
    obtain ⟨h1, h2, h3⟩ := sch_off L fun y hy => h y (List.mem_cons_of_mem _ hy)
    have e1 : runOf 0 x = false := by simp [runOf, hh]
    have e2 : cnt 0 x = 0 := by simp [cnt, hh]
    refine ⟨by rw [schL, e1, e2, h1]; rfl, by rw [schS, e1, e2, h2]; rfl, ?_⟩
    rw [schP, e1, e2, h3]
    unfold keysP
    cases hr : x.run <;> simp [hr]
theorem sch_on {x : En} {L : List En} (h : ∀ y ∈ x :: L, y.held = false) : schL 1 (x :: L) = setRun true x :: L.map (setRun false) ∧ schS 1 (x :: L) = (if x.run then [] else [x.key]) ∧ schP 1 (x :: L) = keysP En.run L := by
  have hh := h x (by simp)
  obtain ⟨h1, h2, h3⟩ := sch_off L fun y hy => h y (List.mem_cons_of_mem _ hy)
  have e1 : runOf 1 x = true := by simp [runOf]
  have e2 : cnt 1 x = 0 := by simp [cnt, hh]
  refine ⟨by rw [schL, e1, e2, h1], ?_, by rw [schP, e1, e2, h3]; rfl⟩
  rw [schS, e1, e2, h2]
  cases x.run <;> rfl
theorem slots_one {L : List En} (h : ∀ y ∈ L, y.held = false) : slotsL 1 L = 1 := by
  unfold slotsL
  rw [show L.filter En.held = [] from List.filter_eq_nil_iff.2 fun x hx => by rw [h x hx]; simp]
  rfl
theorem keysP_off (L : List En) : keysP En.run (L.map (setRun false)) = [] := by
  unfold keysP
  rw [show (L.map (setRun false)).filter En.run = [] from List.filter_eq_nil_iff.2 fun x hx => by
    obtain ⟨y, _, rfl⟩ := List.mem_map.1 hx
    simp [setRun]]
  rfl
theorem In1.sch {x : En} {L : List En} (h : In1 (x :: L)) : In1 (setRun true x :: L.map (setRun false)) ∧ keysP En.run (setRun true x :: L.map (setRun false)) = [x.key] := by
  have hk : (setRun true x :: L.map (setRun false)).map En.key = (x :: L).map En.key := by
    rw [List.map_cons, List.map_cons, List.map_map]
    rfl
  have hkr : keysP En.run (setRun true x :: L.map (setRun false)) = [x.key] := by
    have := keysP_off L
    unfold keysP at *
    rw [List.filter_cons, if_pos (show (setRun true x).run = true from rfl), List.map_cons, this]
    rfl
  refine ⟨⟨⟨by rw [hk]; exact h.kd.nd, fun y hy => ?_⟩, fun y hy => ?_, ?_⟩, hkr⟩
  · rcases List.mem_cons.1 hy with rfl | hy
    · exact h.kd.ok x (by simp)
    · obtain ⟨z, hz, rfl⟩ := List.mem_map.1 hy
      exact h.kd.ok z (List.mem_cons_of_mem _ hz)
  · rcases List.mem_cons.1 hy with rfl | hy
    · exact h.free x (by simp)
    · obtain ⟨z, hz, rfl⟩ := List.mem_map.1 hy
      exact h.free z (List.mem_cons_of_mem _ hz)
  · have := congrArg List.length hkr
    unfold keysP at this
    simpa using Nat.le_of_eq this
/-- the ways of a round: the queue is empty; the first runs; nothing runs; another one runs -/
theorem ways {L : List En} (h : In1 L) : L = [] ∨ (∃ x T, L = x :: T ∧ x.run = true ∧ keysP En.run L = [x.key] ∧ keysP En.run T = []) ∨ (∃ x T, L = x :: T ∧ x.run = false ∧ keysP En.run L = [] ∧ keysP En.run T = []) ∨
    ∃ x T k, L = x :: T ∧ x.run = false ∧ keysP En.run L = [k] ∧ keysP En.run T = [k] ∧ k ≠ x.key := by
  match L, h with
  | [], _ => exact .inl rfl
  | x :: T, h =>
    right
    have ho := h.one
    rw [List.filter_cons] at ho
    unfold keysP
    cases hr : x.run with
    | true =>
      rw [hr, if_pos rfl, List.length_cons] at ho
      have hT : T.filter En.run = [] := List.eq_nil_of_length_eq_zero (by omega)
      exact .inl ⟨x, T, rfl, hr, by rw [List.filter_cons, hr, if_pos rfl, hT]; rfl, by rw [hT]; rfl⟩
    | false =>
      rw [hr, if_neg (by simp)] at ho
      right
      match hf : T.filter En.run, ho with
      | [], _ => exact .inl ⟨x, T, rfl, hr, by rw [List.filter_cons, hr, if_neg (by simp), hf]; rfl, by rw [hf]; rfl⟩
      | [y], _ =>
        refine .inr ⟨x, T, y.key, rfl, hr, by rw [List.filter_cons, hr, if_neg (by simp), hf]; rfl, by rw [hf]; rfl, fun e => ?_⟩
        have hy : y ∈ T := (List.mem_filter.1 (by rw [hf]; simp : y ∈ T.filter En.run)).1
        have := h.kd.nd
        rw [List.map_cons, List.nodup_cons] at this
        exact this.1 (List.mem_map.2 ⟨y, hy, e⟩)
      | _ :: _ :: _, ho => simp at ho
end Go.Proofs.Ytgnmolleaengaaa

/- The walk of RepairqPreempts. -/
namespace Go.Proofs.Ytgnmolleaengaaa
open Go Go.RowKit

/-- the queue of the law -/
structure St1 (B qb : Nat) (w : World) (L : List En) (wr : World) : Prop where
  q : Qp B qb 1 L wr
  inv : In1 L
  t : Qt B w wr

theorem neq_kv2 (k k' : Ky) (w : World) : (binOp .neq 39 (kv k) (kv k')).run Try.prog w = .ok (.bool (!decide (k = k'))) w := by
  simp only [binOp]
  simp [eq_kv]
theorem running_is {B qb : Nat} {slots : Int} {L : List En} {w : World} (K : List Ky) (m : Nat) (h : Qp B qb slots L w) (hl : L.length ≤ 1000) (hK : keysP En.run L = K) (hm : K.length = m) (h1 : m ≤ 1) :
    Calls Try.prog 11 #[.pointer (some ⟨qb, 0, none⟩)] w fun e w' => ∃ a c, e = .returned (.slice a m c) ∧ Rt eK 39 w' (.slice a m c) K ∧ Below w.heap.size w w' := by
  refine (running_as h hl).mono ?_
  rintro e w' ⟨a, c, L', he, hp, -, hr, hb⟩
  rw [hK] at hp
  have e1 := perm_short hp (by omega)
  subst e1 hm
  exact ⟨a, c, he, hr, hb⟩
theorem sched_is {B qb : Nat} {L : List En} {w : World} (L2 : List En) (S P : List Ky) (n1 n2 : Nat) (h : Qp B qb 1 L w) (hB : B ≤ w.heap.size) (hl : L.length ≤ 1000) (hf : ∀ y ∈ L, y.held = false) (e1 : schL 1 L = L2) (e2 : schS 1 L = S) (e3 : schP 1 L = P) (hn1 : S.length = n1) (hn2 : P.length = n2) (h1 : n1 ≤ 1) (h2 : n2 ≤ 1) :
    Calls Try.prog 12 #[.pointer (some ⟨qb, 0, none⟩)] w (SchedIs B qb L2 S P n1 n2 w) := by
  have e0 := slots_one hf
  have := schedule_short h hB hl (by rw [e0, e2]; omega) (by rw [e0, e3]; omega)
  rwa [e0, e1, e2, e3, hn1, hn2] at this
theorem jobs_is {B qb : Nat} {slots : Int} {L : List En} {w : World} (N : Nat) (h : Qp B qb slots L w) (hl : L.length ≤ 1000) (hn : L.length = N) :
    Calls Try.prog 13 #[.pointer (some ⟨qb, 0, none⟩)] w fun e w' => ∃ a c M, e = .returned (.slice a N c) ∧ Rt eJ 33 w' (.slice a N c) M ∧ JLike w' M L ∧ Below w.heap.size w w' := by
  refine (jobs_as h hl).mono ?_
  rintro e w' ⟨a, c, M, he, hr, hj, hb⟩
  subst hn
  exact ⟨a, c, M, he, hr, hj, hb⟩


theorem head_job {M L : List En} {x : En} (h : M.map (·.j) = (x :: L).map (·.j)) : ∃ y, M[0]? = some y ∧ y.j = x.j := by
  cases M with
  | nil => simp at h
  | cons y M =>
    rw [List.map_cons, List.map_cons] at h
    exact ⟨y, rfl, (List.cons.inj h).1⟩
theorem job_cells {w : World} {p : Option Addr} {n c : Nat} {M : List En} (h : Rd eJ w (.slice p n c) M) {y : En} (hy : M[0]? = some y) : ∃ b off, p = some ⟨b, off, none⟩ ∧ b < w.heap.size ∧ w.cell? ⟨b, off, none⟩ = some (.int .i64 y.j.vol) ∧ w.cell? ⟨b, off + 1, none⟩ = some (.int .i64 y.j.frag) ∧ w.cell? ⟨b, off + 2, none⟩ = some (.int .i64 y.j.cls) ∧ w.cell? ⟨b, off + 3, none⟩ = some (.bool false) ∧ w.cell? ⟨b, off + 4, none⟩ = some y.num ∧ w.cell? ⟨b, off + 5, none⟩ = some y.den ∧ w.cell? ⟨b, off + 6, none⟩ = some (.int .i64 y.j.rem) := by
  obtain ⟨b, off, e, hb, hc⟩ := h.cell hy
  exact ⟨b, off, e, hb, by simpa using hc 0 _ rfl, by simpa using hc 1 _ rfl, by simpa using hc 2 _ rfl, by simpa using hc 3 _ rfl, by simpa using hc 4 _ rfl, by simpa using hc 5 _ rfl, by simpa using hc 6 _ rfl⟩
theorem key_cells {w : World} {p : Option Addr} {n c : Nat} {k : Ky} (h : Rd eK w (.slice p n c) [k]) : ∃ b off, p = some ⟨b, off, none⟩ ∧ b < w.heap.size ∧ w.cell? ⟨b, off, none⟩ = some (.int .i64 k.1) ∧ w.cell? ⟨b, off + 1, none⟩ = some (.int .i64 k.2) := by
  obtain ⟨b, off, e, hb, h1, h2⟩ := h.key (i := 0) (k := k) rfl
  exact ⟨b, off, e, hb, by simpa using h1, by simpa using h2⟩


set_option maxRecDepth 20000 in
set_option maxHeartbeats 8000000 in
theorem preempts_law (a : Option Addr) (len cap : Nat) (F : Nat → Opc) (w : World) (hF : Seq w (.slice a len cap) 7 len (fun i => (oc (F i)).toList)) (hB : ∀ i, i < len → OkOp (F i)) :
    Calls Try.prog 3 #[.slice a len cap] w fun e w' => e = .returned (.bool true) ∧ Below w.heap.size w w' := by
  by_cases h40 : 40 < len
  · go_enter Try.func3, Try.ntmps3
    go_wp2_with (go_at_call 5; (with_reducible refine (awake_any _).mono ?_); rintro e w1 ⟨rfl, hb⟩; have HB1 := Lib.hid hb; clear hb)
    go_ret
    exact ⟨rfl, HB1.out⟩
  · have HF := Lib.hid hF
    have HO := Lib.hid hB
    have hd : decide (40 < (len : Int)) = false := by simp; omega
    have hlen : len ≤ 40 := by omega
    clear hF hB h40
    go_enter Try.func3, Try.ntmps3
    go_wp2_with (go_at_call 6; (with_reducible refine (new_one _).mono ?_); rintro e w1 ⟨qb, rfl, hq, hb⟩; have HS := Lib.hid (show St1 w.heap.size qb w [] w1 from ⟨hq, In1.nil, Qt.of_below hb _⟩); clear hq hb)
    go_loopw [5] (fun s wr => ∃ (k : Nat) (L : List En), k ≤ len ∧ s = .int .i64 k ∧ Hid (St1 w.heap.size qb w L wr)) (fun s _ => len - (intOf s).toNat)
    case atStart => exact ⟨0, [], by omega, rfl, HS⟩
    case round =>
      clear HS
      obtain ⟨k, L, hk, rfl, HS⟩ := hrel
      rename World => wr
      by_cases hkn : k < len
      · obtain ⟨o, ho⟩ : ∃ o, F k = o := ⟨_, rfl⟩
        obtain ⟨a', cap', hv, hc1, hc2, hcell⟩ := HF.out
        cases hv
        obtain ⟨b, off, rfl, hbl, hc⟩ := hcell k hkn
        simp only [ho] at hc
        have hok : OkOp o := ho ▸ HO.out k hkn
        have hw := HS.out.t.below (Nat.le_refl _)
        have KJ : ∀ w, Hid (Calls Try.prog 7 #[ov o] w (JobPost w (jobF o))) := fun w => Lib.hid (job_any o hok w)
        have OKJ := Lib.hid (jobF_ok o)
        obtain ⟨j, hj⟩ : ∃ j, jobF o = j := ⟨_, rfl⟩
        rw [hj] at KJ OKJ
        obtain ⟨kd, ovo, ofr, ocl, ore, onu, ode⟩ := o
        have e0 := (hw.cell (p := ⟨b, off + k * 7, none⟩) hbl).trans (hc 0 _ rfl)
        have e1 := (hw.cell (p := ⟨b, off + k * 7 + 1, none⟩) hbl).trans (hc 1 _ rfl)
        have e2 := (hw.cell (p := ⟨b, off + k * 7 + 2, none⟩) hbl).trans (hc 2 _ rfl)
        have e3 := (hw.cell (p := ⟨b, off + k * 7 + 3, none⟩) hbl).trans (hc 3 _ rfl)
        have e4 := (hw.cell (p := ⟨b, off + k * 7 + 4, none⟩) hbl).trans (hc 4 _ rfl)
        have e5 := (hw.cell (p := ⟨b, off + k * 7 + 5, none⟩) hbl).trans (hc 5 _ rfl)
        have e6 := (hw.cell (p := ⟨b, off + k * 7 + 6, none⟩) hbl).trans (hc 6 _ rfl)
        have HC0 := Lib.hid (hc 0 _ rfl)
        have HBL := Lib.hid hbl
        clear hcell ho hc hok hw hj hbl
        obtain ⟨j1, j2, j3, j4, n, d⟩ := j
        go_upto_if 43 with (go_at_call 7; (with_reducible refine (KJ _).out.mono ?_); rintro e w2 ⟨pa, pc, qa, qc, rfl, r1, r2, hb⟩; have hx := below_alloc w2 (.cells (jc ⟨j1, j2, j3, j4, n, d⟩ (.slice pa (limb n).length pc) (.slice qa (limb d).length qc)) 33); have HB2 := Lib.hid (hb.trans (hx.mono hb.size)); have HX := Lib.hid (Holds.new w2 (jc ⟨j1, j2, j3, j4, n, d⟩ (.slice pa (limb n).length pc) (.slice qa (limb d).length qc)) 33); have R1 := Lib.hid (r1.keep hx); have R2 := Lib.hid (r2.keep hx); have d0 := (((HS.out.t.keep HB2.out).below (Nat.le_refl _)).cell (p := ⟨b, off + k * 7, none⟩) HBL.out).trans HC0.out; clear hb hx r1 r2)
        obtain ⟨WX, hWX⟩ : ∃ W, W = w2.alloc (.cells (jc ⟨j1, j2, j3, j4, n, d⟩ (.slice pa (limb n).length pc) (.slice qa (limb d).length qc)) 33) := ⟨_, rfl⟩
        clear d0 e0 e1 e2 e3 e4 e5 e6 KJ HC0 HBL
        go_cut [] from 27 to 116 (fun wx => ∃ L1, Hid (St1 w.heap.size qb w L1 wx))
        case first =>
          have HT2 := Lib.hid (HS.out.t.keep HB2.out)
          have HQ2 := Lib.hid (HS.out.q.keep HB2.out)
          have HLL := Lib.hid HS.out.inv.kd.len
          have HIN := Lib.hid HS.out.inv
          obtain ⟨s0, s1, s2, s3, s4, s5, s6, -⟩ := HX.out.lay7
          clear hWX HS
          by_cases hkd : kd = 2
          · have qk : (kd == 2) = true := by simpa using hkd
            clear hkd
            rcases idxF_cases (j1, j2) L with hi | ⟨i, hi, hil⟩
            · have HI := Lib.hid hi
              clear hi
              go_wp2_with (first
                | (go_at_call 9; (with_reducible refine (rkey_as ⟨j1, j2, j3, j4, n, d⟩ _ _ _ _ _ _ _).mono ?_); rintro e w3 ⟨rfl, hb⟩; have HT3 := Lib.hid (HT2.out.keep hb); have HQ3 := Lib.hid (HQ2.out.keep hb); clear hb)
                | (go_at_call 8; (with_reducible refine (remove_no (k := (j1, j2)) HQ3.out (by have := HLL.out; omega) HI.out).mono ?_); rintro e w4 ⟨rfl, hb⟩; have HT4 := Lib.hid (HT3.out.keep hb); have HQ4 := Lib.hid (HQ3.out.keep hb); clear hb))
              go_meet
              case rel => exact ⟨L, Lib.hid ⟨HQ4.out, HIN.out, HT4.out⟩⟩
            · have HI := Lib.hid hi
              clear hi
              go_wp2_with (first
                | (go_at_call 9; (with_reducible refine (rkey_as ⟨j1, j2, j3, j4, n, d⟩ _ _ _ _ _ _ _).mono ?_); rintro e w3 ⟨rfl, hb⟩; have HT3 := Lib.hid (HT2.out.keep hb); have HQ3 := Lib.hid (HQ2.out.keep hb); clear hb)
                | (go_at_call 8; (with_reducible refine (remove_yes (k := (j1, j2)) HQ3.out (by have := HLL.out; omega) HI.out).mono ?_); rintro e w4 ⟨rfl, hq, ht⟩; have HT4 := Lib.hid (HT3.out.trans ht); have HQ4 := Lib.hid hq; clear hq ht))
              go_meet
              case rel => exact ⟨L.eraseIdx i, Lib.hid ⟨HQ4.out, HIN.out.erase i, HT4.out⟩⟩
          · have qk : (kd == 2) = false := by simpa using hkd
            clear hkd
            have HSZ := Lib.hid (show w.heap.size ≤ (w2.alloc (.cells (jc ⟨j1, j2, j3, j4, n, d⟩ (.slice pa (limb n).length pc) (.slice qa (limb d).length qc)) 33)).heap.size from HT2.out.size)
            rcases idxF_cases (j1, j2) L with hi | ⟨i, hi, hil⟩
            · have KP := Lib.hid (put_new (j := ⟨j1, j2, j3, j4, n, d⟩) HQ2.out HSZ.out (by have := HLL.out; omega) OKJ.out R1.out R2.out hi)
              have HI := Lib.hid hi
              clear hi
              go_wp2_with (go_at_call 10; (with_reducible refine KP.out.mono ?_); rintro e w4 ⟨rfl, y, L', y1, y2, y3, hp, -, hq, ht⟩; have HT4 := Lib.hid (HT2.out.trans ht); have HQ4 := Lib.hid hq; have HIN4 := Lib.hid ((HIN.out.snoc (y := y) (by rw [En.key, y1]; exact HI.out) (by rw [y1]; exact OKJ.out) y2 y3).perm hp); clear hp hq ht y1 y2 y3)
              go_meet
              case rel => exact ⟨L', Lib.hid ⟨HQ4.out, HIN4.out, HT4.out⟩⟩
            · obtain ⟨x, hx, hxk⟩ := idxF_spec hi
              have KP := Lib.hid (put_old (j := ⟨j1, j2, j3, j4, n, d⟩) HQ2.out HSZ.out (by have := HLL.out; omega) OKJ.out R1.out R2.out hi hx)
              have HXX := Lib.hid hx
              have HXK := Lib.hid hxk
              clear hi hx hxk hil
              go_wp2_with (go_at_call 10; (with_reducible refine KP.out.mono ?_); rintro e w4 ⟨rfl, y, L', y1, y2, y3, hp, -, hq, ht⟩; have HT4 := Lib.hid (HT2.out.trans ht); have HQ4 := Lib.hid hq; have HIN4 := Lib.hid ((HIN.out.set (y := y) HXX.out (by rw [HXK.out, En.key, y1]) (by rw [y1]; exact OKJ.out) y2 y3).perm hp); clear hp hq ht y1 y2 y3)
              go_meet
              case rel => exact ⟨L', Lib.hid ⟨HQ4.out, HIN4.out, HT4.out⟩⟩
        case rest =>
          clear HS HX HB2 R1 R2 hWX OKJ HF HO
          rename World => wc
          obtain ⟨L1, HS1⟩ := hcut
          rcases ways HS1.out.inv with rfl | ⟨x, T, rfl, hr, hk1, hk2⟩ | ⟨x, T, rfl, hr, hk1, hk2⟩ | ⟨x, T, k0, rfl, hr, hk1, hk2, hne⟩
          · have HIN2 := Lib.hid In1.nil
            have HK1 := Lib.hid (show keysP En.run [] = [] from rfl)
            have HK2 := Lib.hid (show keysP En.run [] = [] from rfl)
            have HSL := Lib.hid (show schL 1 [] = [] from rfl)
            have HSS := Lib.hid (show schS 1 [] = [] from rfl)
            have HSP := Lib.hid (show schP 1 [] = [] from rfl)
            have HNN := Lib.hid (show ([] : List En).length = 0 from rfl)
            (
              have HIN := Lib.hid HS1.out.inv
              have KR1 := Lib.hid (running_is [] 0 HS1.out.q (by have := HIN.out.kd.len; omega) HK1.out rfl (by omega))
              have TOK := Lib.hid True.intro
              go_wp2_with (first
                | (go_at_call 11; have _t := TOK; (with_reducible refine KR1.out.mono ?_); rintro e wa ⟨p0, c0, rfl, r0, hb⟩; have RW := Lib.hid r0; have HQa := Lib.hid (HS1.out.q.keep hb); have HTa := Lib.hid (HS1.out.t.keep hb); have KS := Lib.hid (sched_is [] [] [] 0 0 HQa.out HTa.out.size (by have := HIN.out.kd.len; omega) HIN.out.free HSL.out HSS.out HSP.out rfl rfl (by omega) (by omega)); clear hb r0 TOK _t)
                | (go_at_call 12; (with_reducible refine KS.out.mono ?_); rintro e wb ⟨p1, c1, p2, c2, rfl, r1, r2, hq, ht⟩; have RW2 := Lib.hid (RW.out.qt ht (by decide) (by decide)); have RS := Lib.hid r1; have RP := Lib.hid r2; have HQb := Lib.hid hq; have HTb := Lib.hid (HTa.out.trans ht); have KR2 := Lib.hid (running_is [] 0 HQb.out (by have := HIN2.out.kd.len; omega) HK2.out rfl (by omega)); clear hq ht r1 r2)
                | (go_at_call 11; (with_reducible refine KR2.out.mono ?_); rintro e wc2 ⟨p3, c3, rfl, r3, hb⟩; have RW3 := Lib.hid (RW2.out.keep hb); have RN := Lib.hid r3; have HQc := Lib.hid (HQb.out.keep hb); have HTc := Lib.hid (HTb.out.keep hb); have KJ := Lib.hid (jobs_is 0 HQc.out (by have := HIN2.out.kd.len; omega) HNN.out); clear hb r3)
                | (go_at_call 13; (with_reducible refine KJ.out.mono ?_); rintro e wd ⟨p4, c4, M, rfl, r4, hj, hb⟩; have RW4 := Lib.hid (RW3.out.keep hb); have RN4 := Lib.hid (RN.out.keep hb); have RJ := Lib.hid r4; have HJ := Lib.hid hj; have HQd := Lib.hid (HQc.out.keep hb); have HTd := Lib.hid (HTc.out.keep hb); clear hb r4 hj)))
            go_roundw
            case rel => exact ⟨k + 1, [], by omega, by go_num, Lib.hid ⟨HQd.out, In1.nil, HTd.out⟩⟩
            case measure => simp [intOf]; omega
          · have HIN2 := Lib.hid HS1.out.inv.sch.1
            have HK1 := Lib.hid hk1
            have HK2 := Lib.hid HS1.out.inv.sch.2
            obtain ⟨g1, g2, g3⟩ := sch_on HS1.out.inv.free
            have HSL := Lib.hid g1
            have HSS := Lib.hid (show schS 1 (x :: T) = [] by rw [g2, hr]; rfl)
            have HSP := Lib.hid (show schP 1 (x :: T) = [] by rw [g3, hk2])
            obtain ⟨N, hN⟩ : ∃ N, (setRun true x :: T.map (setRun false)).length = N := ⟨_, rfl⟩
            have HNN := Lib.hid hN
            have hn0 : ((N : Int) == 0) = false := by rw [← hN]; simp; omega
            have hnp : 0 < N := by rw [← hN]; simp
            clear g1 g2 g3 hk1 hk2 hr hN
            (
              have HIN := Lib.hid HS1.out.inv
              have KR1 := Lib.hid (running_is [x.key] 1 HS1.out.q (by have := HIN.out.kd.len; omega) HK1.out rfl (by omega))
              have TOK := Lib.hid True.intro
              go_wp2_with (first
                | (go_at_call 11; have _t := TOK; (with_reducible refine KR1.out.mono ?_); rintro e wa ⟨p0, c0, rfl, r0, hb⟩; have RW := Lib.hid r0; have HQa := Lib.hid (HS1.out.q.keep hb); have HTa := Lib.hid (HS1.out.t.keep hb); have KS := Lib.hid (sched_is (setRun true x :: T.map (setRun false)) [] [] 0 0 HQa.out HTa.out.size (by have := HIN.out.kd.len; omega) HIN.out.free HSL.out HSS.out HSP.out rfl rfl (by omega) (by omega)); clear hb r0 TOK _t)
                | (go_at_call 12; (with_reducible refine KS.out.mono ?_); rintro e wb ⟨p1, c1, p2, c2, rfl, r1, r2, hq, ht⟩; have RW2 := Lib.hid (RW.out.qt ht (by decide) (by decide)); have RS := Lib.hid r1; have RP := Lib.hid r2; have HQb := Lib.hid hq; have HTb := Lib.hid (HTa.out.trans ht); have KR2 := Lib.hid (running_is [x.key] 1 HQb.out (by have := HIN2.out.kd.len; omega) HK2.out rfl (by omega)); clear hq ht r1 r2)
                | (go_at_call 11; (with_reducible refine KR2.out.mono ?_); rintro e wc2 ⟨p3, c3, rfl, r3, hb⟩; have RW3 := Lib.hid (RW2.out.keep hb); have RN := Lib.hid r3; have HQc := Lib.hid (HQb.out.keep hb); have HTc := Lib.hid (HTb.out.keep hb); have KJ := Lib.hid (jobs_is N HQc.out (by have := HIN2.out.kd.len; omega) HNN.out); clear hb r3)
                | (go_at_call 13; (with_reducible refine KJ.out.mono ?_); rintro e wd ⟨p4, c4, M, rfl, r4, hj, hb⟩; have RW4 := Lib.hid (RW3.out.keep hb); have RN4 := Lib.hid (RN.out.keep hb); have RJ := Lib.hid r4; have HJ := Lib.hid hj; have HQd := Lib.hid (HQc.out.keep hb); have HTd := Lib.hid (HTc.out.keep hb); clear hb r4 hj)))
            (
              obtain ⟨y, hy, hyj0⟩ := head_job HJ.out.eq
              have hyj : y.j = x.j := hyj0
              obtain ⟨ab, ao, rfl, abl, q0, q1, q2, q3, q4, q5, q6⟩ := job_cells RJ.out.rd hy
              obtain ⟨nb, no, rfl, nbl, t0, t1⟩ := key_cells RN4.out.rd
              rw [hyj] at q0 q1 q2 q6
              have A0 := Lib.hid q0
              have A1 := Lib.hid q1
              have A2 := Lib.hid q2
              have A3 := Lib.hid q3
              have A4 := Lib.hid q4
              have A5 := Lib.hid q5
              have A6 := Lib.hid q6
              have N0 := Lib.hid (show wd.cell? ⟨nb, no, none⟩ = some (.int .i64 x.j.vol) from t0)
              have N1 := Lib.hid (show wd.cell? ⟨nb, no + 1, none⟩ = some (.int .i64 x.j.frag) from t1)
              have AB := Lib.hid abl
              have NB := Lib.hid nbl
              have hnk : ∀ w, (binOp .neq 39 (.agg #[.int .i64 x.j.vol, .int .i64 x.j.frag]) (.agg #[.int .i64 x.j.vol, .int .i64 x.j.frag])).run Try.prog w = .ok (.bool false) w := neq_kv x.key
              clear hy hyj hyj0 q0 q1 q2 q3 q4 q5 q6 t0 t1 abl nbl
              refine wp_region_grow (Below wd.heap.size wd) (by kernel_rfl) (by kernel_rfl) (Below.refl _ _).drew ?_
              repeat first
                       | (apply gRow_plain
                          · exact rfl
                          · intro wg hg
                            ((have q0 := (hg.cell (p := ⟨ab, ao, none⟩) AB.out).trans A0.out; have q1 := (hg.cell (p := ⟨ab, ao + 1, none⟩) AB.out).trans A1.out; have q2 := (hg.cell (p := ⟨ab, ao + 2, none⟩) AB.out).trans A2.out; have q3 := (hg.cell (p := ⟨ab, ao + 3, none⟩) AB.out).trans A3.out; have q4 := (hg.cell (p := ⟨ab, ao + 4, none⟩) AB.out).trans A4.out; have q5 := (hg.cell (p := ⟨ab, ao + 5, none⟩) AB.out).trans A5.out; have q6 := (hg.cell (p := ⟨ab, ao + 6, none⟩) AB.out).trans A6.out; have t0 := (hg.cell (p := ⟨nb, no, none⟩) NB.out).trans N0.out; have t1 := (hg.cell (p := ⟨nb, no + 1, none⟩) NB.out).trans N1.out))
                            go_simp
                            first
                              | exact rfl
                              | exact hg
                              | exact ⟨hg, rfl⟩
                              | ((first
| ((with_reducible refine (rkey_as _ _ _ _ _ _ _ _).mono ?_); rintro e w' ⟨rfl, hb⟩; exact ⟨rfl, hg.trans (hb.mono hg.size)⟩)))
                          intro K hK
                          go_simp
                          refine hK _ ?_
                          clear hK K)
                       | (apply gRow_step
                          · go_simp; done
                          · intro wg hg
                            ((have q0 := (hg.cell (p := ⟨ab, ao, none⟩) AB.out).trans A0.out; have q1 := (hg.cell (p := ⟨ab, ao + 1, none⟩) AB.out).trans A1.out; have q2 := (hg.cell (p := ⟨ab, ao + 2, none⟩) AB.out).trans A2.out; have q3 := (hg.cell (p := ⟨ab, ao + 3, none⟩) AB.out).trans A3.out; have q4 := (hg.cell (p := ⟨ab, ao + 4, none⟩) AB.out).trans A4.out; have q5 := (hg.cell (p := ⟨ab, ao + 5, none⟩) AB.out).trans A5.out; have q6 := (hg.cell (p := ⟨ab, ao + 6, none⟩) AB.out).trans A6.out; have t0 := (hg.cell (p := ⟨nb, no, none⟩) NB.out).trans N0.out; have t1 := (hg.cell (p := ⟨nb, no + 1, none⟩) NB.out).trans N1.out))
                            go_simp
                            first
                              | exact rfl
                              | exact hg
                              | exact ⟨hg, rfl⟩
                              | ((first
| ((with_reducible refine (rkey_as _ _ _ _ _ _ _ _).mono ?_); rintro e w' ⟨rfl, hb⟩; exact ⟨rfl, hg.trans (hb.mono hg.size)⟩)))
                          intro K hK
                          go_simp
                          refine hK _ ?_
                          clear hK K)
                       | (apply gRow_not
                          · go_simp; done
                          intro K hK
                          go_simp
                          refine hK _ ?_
                          clear hK K)
              refine gRow_nil ?_
              intro we hbe
              have HQe := Lib.hid (HQd.out.keep hbe)
              have HTe := Lib.hid (HTd.out.keep hbe)
              have RWe := Lib.hid (RW4.out.keep hbe)
              have s0 := (hbe.cell (p := ⟨nb, no, none⟩) NB.out).trans N0.out
              have s1 := (hbe.cell (p := ⟨nb, no + 1, none⟩) NB.out).trans N1.out
              clear hbe)
            obtain ⟨wb, wo, rfl, wbl, z0, z1⟩ := key_cells RWe.out.rd
            have z2 : we.cell? ⟨wb, wo, none⟩ = some (.int .i64 x.j.vol) := z0
            have z3 : we.cell? ⟨wb, wo + 1, none⟩ = some (.int .i64 x.j.frag) := z1
            clear z0 z1
            go_wp2_with fail
            go_quiet (fail)
            go_wp2_with fail
            go_roundw
            case rel => exact ⟨k + 1, setRun true x :: T.map (setRun false), by omega, by go_num, Lib.hid ⟨HQe.out.keep (below_drewN (Below.refl _ _) _), HIN2.out, HTe.out.keep (below_drewN (Below.refl _ _) _)⟩⟩
            case measure => simp [intOf]; omega
          · have HIN2 := Lib.hid HS1.out.inv.sch.1
            have HK1 := Lib.hid hk1
            have HK2 := Lib.hid HS1.out.inv.sch.2
            obtain ⟨g1, g2, g3⟩ := sch_on HS1.out.inv.free
            have HSL := Lib.hid g1
            have HSS := Lib.hid (show schS 1 (x :: T) = [x.key] by rw [g2, hr]; rfl)
            have HSP := Lib.hid (show schP 1 (x :: T) = [] by rw [g3, hk2])
            obtain ⟨N, hN⟩ : ∃ N, (setRun true x :: T.map (setRun false)).length = N := ⟨_, rfl⟩
            have HNN := Lib.hid hN
            have hn0 : ((N : Int) == 0) = false := by rw [← hN]; simp; omega
            have hnp : 0 < N := by rw [← hN]; simp
            clear g1 g2 g3 hk1 hk2 hr hN
            (
              have HIN := Lib.hid HS1.out.inv
              have KR1 := Lib.hid (running_is [] 0 HS1.out.q (by have := HIN.out.kd.len; omega) HK1.out rfl (by omega))
              have TOK := Lib.hid True.intro
              go_wp2_with (first
                | (go_at_call 11; have _t := TOK; (with_reducible refine KR1.out.mono ?_); rintro e wa ⟨p0, c0, rfl, r0, hb⟩; have RW := Lib.hid r0; have HQa := Lib.hid (HS1.out.q.keep hb); have HTa := Lib.hid (HS1.out.t.keep hb); have KS := Lib.hid (sched_is (setRun true x :: T.map (setRun false)) [x.key] [] 1 0 HQa.out HTa.out.size (by have := HIN.out.kd.len; omega) HIN.out.free HSL.out HSS.out HSP.out rfl rfl (by omega) (by omega)); clear hb r0 TOK _t)
                | (go_at_call 12; (with_reducible refine KS.out.mono ?_); rintro e wb ⟨p1, c1, p2, c2, rfl, r1, r2, hq, ht⟩; have RW2 := Lib.hid (RW.out.qt ht (by decide) (by decide)); have RS := Lib.hid r1; have RP := Lib.hid r2; have HQb := Lib.hid hq; have HTb := Lib.hid (HTa.out.trans ht); have KR2 := Lib.hid (running_is [x.key] 1 HQb.out (by have := HIN2.out.kd.len; omega) HK2.out rfl (by omega)); clear hq ht r1 r2)
                | (go_at_call 11; (with_reducible refine KR2.out.mono ?_); rintro e wc2 ⟨p3, c3, rfl, r3, hb⟩; have RW3 := Lib.hid (RW2.out.keep hb); have RN := Lib.hid r3; have HQc := Lib.hid (HQb.out.keep hb); have HTc := Lib.hid (HTb.out.keep hb); have KJ := Lib.hid (jobs_is N HQc.out (by have := HIN2.out.kd.len; omega) HNN.out); clear hb r3)
                | (go_at_call 13; (with_reducible refine KJ.out.mono ?_); rintro e wd ⟨p4, c4, M, rfl, r4, hj, hb⟩; have RW4 := Lib.hid (RW3.out.keep hb); have RN4 := Lib.hid (RN.out.keep hb); have RJ := Lib.hid r4; have HJ := Lib.hid hj; have HQd := Lib.hid (HQc.out.keep hb); have HTd := Lib.hid (HTc.out.keep hb); clear hb r4 hj)))
            (
              obtain ⟨y, hy, hyj0⟩ := head_job HJ.out.eq
              have hyj : y.j = x.j := hyj0
              obtain ⟨ab, ao, rfl, abl, q0, q1, q2, q3, q4, q5, q6⟩ := job_cells RJ.out.rd hy
              obtain ⟨nb, no, rfl, nbl, t0, t1⟩ := key_cells RN4.out.rd
              rw [hyj] at q0 q1 q2 q6
              have A0 := Lib.hid q0
              have A1 := Lib.hid q1
              have A2 := Lib.hid q2
              have A3 := Lib.hid q3
              have A4 := Lib.hid q4
              have A5 := Lib.hid q5
              have A6 := Lib.hid q6
              have N0 := Lib.hid (show wd.cell? ⟨nb, no, none⟩ = some (.int .i64 x.j.vol) from t0)
              have N1 := Lib.hid (show wd.cell? ⟨nb, no + 1, none⟩ = some (.int .i64 x.j.frag) from t1)
              have AB := Lib.hid abl
              have NB := Lib.hid nbl
              have hnk : ∀ w, (binOp .neq 39 (.agg #[.int .i64 x.j.vol, .int .i64 x.j.frag]) (.agg #[.int .i64 x.j.vol, .int .i64 x.j.frag])).run Try.prog w = .ok (.bool false) w := neq_kv x.key
              clear hy hyj hyj0 q0 q1 q2 q3 q4 q5 q6 t0 t1 abl nbl
              refine wp_region_grow (Below wd.heap.size wd) (by kernel_rfl) (by kernel_rfl) (Below.refl _ _).drew ?_
              repeat first
                       | (apply gRow_plain
                          · exact rfl
                          · intro wg hg
                            ((have q0 := (hg.cell (p := ⟨ab, ao, none⟩) AB.out).trans A0.out; have q1 := (hg.cell (p := ⟨ab, ao + 1, none⟩) AB.out).trans A1.out; have q2 := (hg.cell (p := ⟨ab, ao + 2, none⟩) AB.out).trans A2.out; have q3 := (hg.cell (p := ⟨ab, ao + 3, none⟩) AB.out).trans A3.out; have q4 := (hg.cell (p := ⟨ab, ao + 4, none⟩) AB.out).trans A4.out; have q5 := (hg.cell (p := ⟨ab, ao + 5, none⟩) AB.out).trans A5.out; have q6 := (hg.cell (p := ⟨ab, ao + 6, none⟩) AB.out).trans A6.out; have t0 := (hg.cell (p := ⟨nb, no, none⟩) NB.out).trans N0.out; have t1 := (hg.cell (p := ⟨nb, no + 1, none⟩) NB.out).trans N1.out))
                            go_simp
                            first
                              | exact rfl
                              | exact hg
                              | exact ⟨hg, rfl⟩
                              | ((first
| ((with_reducible refine (rkey_as _ _ _ _ _ _ _ _).mono ?_); rintro e w' ⟨rfl, hb⟩; exact ⟨rfl, hg.trans (hb.mono hg.size)⟩)))
                          intro K hK
                          go_simp
                          refine hK _ ?_
                          clear hK K)
                       | (apply gRow_step
                          · go_simp; done
                          · intro wg hg
                            ((have q0 := (hg.cell (p := ⟨ab, ao, none⟩) AB.out).trans A0.out; have q1 := (hg.cell (p := ⟨ab, ao + 1, none⟩) AB.out).trans A1.out; have q2 := (hg.cell (p := ⟨ab, ao + 2, none⟩) AB.out).trans A2.out; have q3 := (hg.cell (p := ⟨ab, ao + 3, none⟩) AB.out).trans A3.out; have q4 := (hg.cell (p := ⟨ab, ao + 4, none⟩) AB.out).trans A4.out; have q5 := (hg.cell (p := ⟨ab, ao + 5, none⟩) AB.out).trans A5.out; have q6 := (hg.cell (p := ⟨ab, ao + 6, none⟩) AB.out).trans A6.out; have t0 := (hg.cell (p := ⟨nb, no, none⟩) NB.out).trans N0.out; have t1 := (hg.cell (p := ⟨nb, no + 1, none⟩) NB.out).trans N1.out))
                            go_simp
                            first
                              | exact rfl
                              | exact hg
                              | exact ⟨hg, rfl⟩
                              | ((first
| ((with_reducible refine (rkey_as _ _ _ _ _ _ _ _).mono ?_); rintro e w' ⟨rfl, hb⟩; exact ⟨rfl, hg.trans (hb.mono hg.size)⟩)))
                          intro K hK
                          go_simp
                          refine hK _ ?_
                          clear hK K)
                       | (apply gRow_not
                          · go_simp; done
                          intro K hK
                          go_simp
                          refine hK _ ?_
                          clear hK K)
              refine gRow_nil ?_
              intro we hbe
              have HQe := Lib.hid (HQd.out.keep hbe)
              have HTe := Lib.hid (HTd.out.keep hbe)
              have RWe := Lib.hid (RW4.out.keep hbe)
              have s0 := (hbe.cell (p := ⟨nb, no, none⟩) NB.out).trans N0.out
              have s1 := (hbe.cell (p := ⟨nb, no + 1, none⟩) NB.out).trans N1.out
              clear hbe)
            go_wp2_with fail
            go_quiet (fail)
            go_wp2_with fail
            go_roundw
            case rel => exact ⟨k + 1, setRun true x :: T.map (setRun false), by omega, by go_num, Lib.hid ⟨HQe.out.keep (below_drewN (Below.refl _ _) _), HIN2.out, HTe.out.keep (below_drewN (Below.refl _ _) _)⟩⟩
            case measure => simp [intOf]; omega
          · obtain ⟨k1, k2⟩ := k0
            have hd2 : ∀ w, (binOp .neq 39 (.agg #[.int .i64 k1, .int .i64 k2]) (.agg #[.int .i64 x.j.vol, .int .i64 x.j.frag])).run Try.prog w = .ok (.bool true) w := fun w => (neq_kv2 (k1, k2) x.key w).trans (by rw [decide_eq_false hne]; rfl)
            clear hne
            have HIN2 := Lib.hid HS1.out.inv.sch.1
            have HK1 := Lib.hid hk1
            have HK2 := Lib.hid HS1.out.inv.sch.2
            obtain ⟨g1, g2, g3⟩ := sch_on HS1.out.inv.free
            have HSL := Lib.hid g1
            have HSS := Lib.hid (show schS 1 (x :: T) = [x.key] by rw [g2, hr]; rfl)
            have HSP := Lib.hid (show schP 1 (x :: T) = [(k1, k2)] by rw [g3, hk2])
            obtain ⟨N, hN⟩ : ∃ N, (setRun true x :: T.map (setRun false)).length = N := ⟨_, rfl⟩
            have HNN := Lib.hid hN
            have hn0 : ((N : Int) == 0) = false := by rw [← hN]; simp; omega
            have hnp : 0 < N := by rw [← hN]; simp
            clear g1 g2 g3 hk1 hk2 hr hN
            (
              have HIN := Lib.hid HS1.out.inv
              have KR1 := Lib.hid (running_is [(k1, k2)] 1 HS1.out.q (by have := HIN.out.kd.len; omega) HK1.out rfl (by omega))
              have TOK := Lib.hid True.intro
              go_wp2_with (first
                | (go_at_call 11; have _t := TOK; (with_reducible refine KR1.out.mono ?_); rintro e wa ⟨p0, c0, rfl, r0, hb⟩; have RW := Lib.hid r0; have HQa := Lib.hid (HS1.out.q.keep hb); have HTa := Lib.hid (HS1.out.t.keep hb); have KS := Lib.hid (sched_is (setRun true x :: T.map (setRun false)) [x.key] [(k1, k2)] 1 1 HQa.out HTa.out.size (by have := HIN.out.kd.len; omega) HIN.out.free HSL.out HSS.out HSP.out rfl rfl (by omega) (by omega)); clear hb r0 TOK _t)
                | (go_at_call 12; (with_reducible refine KS.out.mono ?_); rintro e wb ⟨p1, c1, p2, c2, rfl, r1, r2, hq, ht⟩; have RW2 := Lib.hid (RW.out.qt ht (by decide) (by decide)); have RS := Lib.hid r1; have RP := Lib.hid r2; have HQb := Lib.hid hq; have HTb := Lib.hid (HTa.out.trans ht); have KR2 := Lib.hid (running_is [x.key] 1 HQb.out (by have := HIN2.out.kd.len; omega) HK2.out rfl (by omega)); clear hq ht r1 r2)
                | (go_at_call 11; (with_reducible refine KR2.out.mono ?_); rintro e wc2 ⟨p3, c3, rfl, r3, hb⟩; have RW3 := Lib.hid (RW2.out.keep hb); have RN := Lib.hid r3; have HQc := Lib.hid (HQb.out.keep hb); have HTc := Lib.hid (HTb.out.keep hb); have KJ := Lib.hid (jobs_is N HQc.out (by have := HIN2.out.kd.len; omega) HNN.out); clear hb r3)
                | (go_at_call 13; (with_reducible refine KJ.out.mono ?_); rintro e wd ⟨p4, c4, M, rfl, r4, hj, hb⟩; have RW4 := Lib.hid (RW3.out.keep hb); have RN4 := Lib.hid (RN.out.keep hb); have RJ := Lib.hid r4; have HJ := Lib.hid hj; have HQd := Lib.hid (HQc.out.keep hb); have HTd := Lib.hid (HTc.out.keep hb); clear hb r4 hj)))
            (
              obtain ⟨y, hy, hyj0⟩ := head_job HJ.out.eq
              have hyj : y.j = x.j := hyj0
              obtain ⟨ab, ao, rfl, abl, q0, q1, q2, q3, q4, q5, q6⟩ := job_cells RJ.out.rd hy
              obtain ⟨nb, no, rfl, nbl, t0, t1⟩ := key_cells RN4.out.rd
              rw [hyj] at q0 q1 q2 q6
              have A0 := Lib.hid q0
              have A1 := Lib.hid q1
              have A2 := Lib.hid q2
              have A3 := Lib.hid q3
              have A4 := Lib.hid q4
              have A5 := Lib.hid q5
              have A6 := Lib.hid q6
              have N0 := Lib.hid (show wd.cell? ⟨nb, no, none⟩ = some (.int .i64 x.j.vol) from t0)
              have N1 := Lib.hid (show wd.cell? ⟨nb, no + 1, none⟩ = some (.int .i64 x.j.frag) from t1)
              have AB := Lib.hid abl
              have NB := Lib.hid nbl
              have hnk : ∀ w, (binOp .neq 39 (.agg #[.int .i64 x.j.vol, .int .i64 x.j.frag]) (.agg #[.int .i64 x.j.vol, .int .i64 x.j.frag])).run Try.prog w = .ok (.bool false) w := neq_kv x.key
              clear hy hyj hyj0 q0 q1 q2 q3 q4 q5 q6 t0 t1 abl nbl
              refine wp_region_grow (Below wd.heap.size wd) (by kernel_rfl) (by kernel_rfl) (Below.refl _ _).drew ?_
              repeat first
                       | (apply gRow_plain
                          · exact rfl
                          · intro wg hg
                            ((have q0 := (hg.cell (p := ⟨ab, ao, none⟩) AB.out).trans A0.out; have q1 := (hg.cell (p := ⟨ab, ao + 1, none⟩) AB.out).trans A1.out; have q2 := (hg.cell (p := ⟨ab, ao + 2, none⟩) AB.out).trans A2.out; have q3 := (hg.cell (p := ⟨ab, ao + 3, none⟩) AB.out).trans A3.out; have q4 := (hg.cell (p := ⟨ab, ao + 4, none⟩) AB.out).trans A4.out; have q5 := (hg.cell (p := ⟨ab, ao + 5, none⟩) AB.out).trans A5.out; have q6 := (hg.cell (p := ⟨ab, ao + 6, none⟩) AB.out).trans A6.out; have t0 := (hg.cell (p := ⟨nb, no, none⟩) NB.out).trans N0.out; have t1 := (hg.cell (p := ⟨nb, no + 1, none⟩) NB.out).trans N1.out))
                            go_simp
                            first
                              | exact rfl
                              | exact hg
                              | exact ⟨hg, rfl⟩
                              | ((first
| ((with_reducible refine (rkey_as _ _ _ _ _ _ _ _).mono ?_); rintro e w' ⟨rfl, hb⟩; exact ⟨rfl, hg.trans (hb.mono hg.size)⟩)))
                          intro K hK
                          go_simp
                          refine hK _ ?_
                          clear hK K)
                       | (apply gRow_step
                          · go_simp; done
                          · intro wg hg
                            ((have q0 := (hg.cell (p := ⟨ab, ao, none⟩) AB.out).trans A0.out; have q1 := (hg.cell (p := ⟨ab, ao + 1, none⟩) AB.out).trans A1.out; have q2 := (hg.cell (p := ⟨ab, ao + 2, none⟩) AB.out).trans A2.out; have q3 := (hg.cell (p := ⟨ab, ao + 3, none⟩) AB.out).trans A3.out; have q4 := (hg.cell (p := ⟨ab, ao + 4, none⟩) AB.out).trans A4.out; have q5 := (hg.cell (p := ⟨ab, ao + 5, none⟩) AB.out).trans A5.out; have q6 := (hg.cell (p := ⟨ab, ao + 6, none⟩) AB.out).trans A6.out; have t0 := (hg.cell (p := ⟨nb, no, none⟩) NB.out).trans N0.out; have t1 := (hg.cell (p := ⟨nb, no + 1, none⟩) NB.out).trans N1.out))
                            go_simp
                            first
                              | exact rfl
                              | exact hg
                              | exact ⟨hg, rfl⟩
                              | ((first
| ((with_reducible refine (rkey_as _ _ _ _ _ _ _ _).mono ?_); rintro e w' ⟨rfl, hb⟩; exact ⟨rfl, hg.trans (hb.mono hg.size)⟩)))
                          intro K hK
                          go_simp
                          refine hK _ ?_
                          clear hK K)
                       | (apply gRow_not
                          · go_simp; done
                          intro K hK
                          go_simp
                          refine hK _ ?_
                          clear hK K)
              refine gRow_nil ?_
              intro we hbe
              have HQe := Lib.hid (HQd.out.keep hbe)
              have HTe := Lib.hid (HTd.out.keep hbe)
              have RWe := Lib.hid (RW4.out.keep hbe)
              have s0 := (hbe.cell (p := ⟨nb, no, none⟩) NB.out).trans N0.out
              have s1 := (hbe.cell (p := ⟨nb, no + 1, none⟩) NB.out).trans N1.out
              clear hbe)
            obtain ⟨wb, wo, rfl, wbl, z0, z1⟩ := key_cells RWe.out.rd
            have z2 : we.cell? ⟨wb, wo, none⟩ = some (.int .i64 k1) := z0
            have z3 : we.cell? ⟨wb, wo + 1, none⟩ = some (.int .i64 k2) := z1
            clear z0 z1
            go_wp2_with fail
            go_quiet (fail)
            go_wp2_with fail
            go_roundw
            case rel => exact ⟨k + 1, setRun true x :: T.map (setRun false), by omega, by go_num, Lib.hid ⟨HQe.out.keep (below_drewN (Below.refl _ _) _), HIN2.out, HTe.out.keep (below_drewN (Below.refl _ _) _)⟩⟩
            case measure => simp [intOf]; omega
      · obtain rfl : k = len := by omega
        have HW := Lib.hid (HS.out.t.below (Nat.le_refl _))
        clear HS
        go_wp2_with (go_at_call 5; (with_reducible refine (awake_any _).mono ?_); rintro e w5 ⟨rfl, hb⟩; have HB5 := Lib.hid (HW.out.trans (hb.mono HW.out.size)); clear hb)
        go_ret
        exact ⟨rfl, HB5.out⟩
end Go.Proofs.Ytgnmolleaengaaa
