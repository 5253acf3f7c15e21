/- The walk of do. -/
import Derived.Test.YtnhpjmjinchamaaPm
set_option linter.unusedVariables false
set_option linter.unusedSimpArgs false
set_option linter.unnecessarySimpa false
namespace Go.Proofs.Ytnhpjmjinchamaa
open Go Go.RowKit

theorem six_fields {fs : List Field} (hf : fs.map (fun f => (f.name == "_", f.type, f.offset)) = [(false, 3, 0), (false, 3, 1), (false, 3, 2), (false, 3, 3), (false, 3, 4), (false, 4, 5)]) :
    ∃ a b c d e g, fs = [a, b, c, d, e, g] ∧ (¬ a.name = "_" ∧ a.type = 3 ∧ a.offset = 0) ∧ (¬ b.name = "_" ∧ b.type = 3 ∧ b.offset = 1) ∧ (¬ c.name = "_" ∧ c.type = 3 ∧ c.offset = 2) ∧ (¬ d.name = "_" ∧ d.type = 3 ∧ d.offset = 3) ∧ (¬ e.name = "_" ∧ e.type = 3 ∧ e.offset = 4) ∧ (¬ g.name = "_" ∧ g.type = 4 ∧ g.offset = 5) := by
  have hl : fs.length = 6 := by have := congrArg List.length hf; simpa using this
  match fs, hl, hf with
  | [a, b, c, d, e, g], _, hf =>
    simp at hf
    obtain ⟨h1, h2, h3, h4, h5, h6⟩ := hf
    exact ⟨a, b, c, d, e, g, rfl, h1, h2, h3, h4, h5, h6⟩

theorem eq_ls (l : Ls) (w : World) : (Op.equal 46 (lv l) (lv l)).run Try.prog w = .ok true w := by
  have h3 : Try.prog.underlying 3 = some (.int .i64) := by kernel_rfl
  have h4 : Try.prog.underlying 4 = some .bool := by kernel_rfl
  have hu : Try.prog.underlying 46 = some (.struct (Try.prog.fieldsOf 46)) := by kernel_rfl
  have hp : Try.prog.stoodInHeld 46 = false := by kernel_rfl
  obtain ⟨f0, f1, f2, f3, f4, f5, hfs, ⟨a0, b0, c0⟩, ⟨a1, b1, c1⟩, ⟨a2, b2, c2⟩, ⟨a3, b3, c3⟩, ⟨a4, b4, c4⟩, a5, b5, c5⟩ := six_fields (fs := (Try.prog.fieldsOf 46).toList) (by kernel_rfl)
  show (Op.equalIn (9998 + 1 + 1) 46 (lv l) (lv l)).run Try.prog w = _
  rw [run_equalIn_agg w _ _ _ _ hu hp, hfs]
  have hc : ∀ (p q : Int) (w : World), (Op.equalIn 9999 3 (.int .i64 p) (.int .i64 q)).run Try.prog w = .ok (p == q) w := fun p q w => run_equalIn_int w 9998 3 .i64 .i64 p q h3
  have hb : ∀ (p q : Bool) (w : World), (Op.equalIn 9999 4 (.bool p) (.bool q)).run Try.prog w = .ok (p == q) w := fun p q w => run_equalIn_bool w 9998 4 p q h4
  simp only [Op.eqFields, a0, b0, c0, a1, b1, c1, a2, b2, c2, a3, b3, c3, a4, b4, c4, a5, b5, c5]
  go_simp
theorem eql_ls (l : Ls) (w : World) : (binOp .eql 46 (lv l) (lv l)).run Try.prog w = .ok (.bool true) w := by
  simp only [binOp]
  simp [eq_ls]

def stepT (T : Tb) (o : Opc) : Tb :=
  if o.kind = 1 then (placeF T o.vol o.frag o.drive o.ext).2 else if o.kind = 2 then (grantF T o.vol o.frag o.drive o.ext).2 else if o.kind = 3 then (commitF T o.vol o.frag).2
  else if o.kind = 4 then (endF T o.vol o.frag).2 else if o.kind = 5 then (advF T o.vol).2 else if o.kind = 6 then (verF T).2 else T

/-- the program's table and the reference's, apart from each other -/
structure Both (B : Nat) (i : Ids) (rb : Nat) (T : Tb) (R : Rf) (w : World) : Prop where
  tb : TbAt w i T
  rf : RfAt w B rb R
  low : ∀ s ∈ i.all, s < B
namespace Both
variable {B : Nat} {i : Ids} {rb : Nat} {T T' : Tb} {R R' : Rf} {w w' : World}
theorem call (h : Both B i rb T R w) (hb : Below w.heap.size w w') : Both B i rb T R w' := ⟨h.tb.below hb, h.rf.below hb, h.low⟩
theorem left {v : Value} {e : Ending} (h : Both B i rb T R w) (ho : Out w i T' v e w') : e = .returned v ∧ Both B i rb T' R w' ∧ Only (rb :: i.all) w w' :=
  ⟨ho.1, ⟨ho.2.1, h.rf.only ho.2.2 h.low, h.low⟩, ho.2.2.mono fun s hs => List.mem_cons_of_mem _ hs⟩
theorem right {v : Value} {e : Ending} (h : Both B i rb T R w) (ho : RefPost w B rb R' v e w') : e = .returned v ∧ Both B i rb T R' w' ∧ Only (rb :: i.all) w w' :=
  ⟨ho.1, ⟨h.tb.keep ho.2.2.1 (fun s hs hm => by have := h.low s hs; have := h.rf.base; have := List.mem_singleton.1 hm; omega), ho.2.1, h.low⟩, ho.2.2.1.mono fun s hs => by rw [List.mem_singleton.1 hs]; exact List.mem_cons_self⟩
end Both

/-- .. with what has turned since w0, and the box of a parameter -/
structure Bo (w0 : World) (B : Nat) (i : Ids) (rb : Nat) (T : Tb) (R : Rf) (b0 : Nat) (c : Array Value) (w : World) : Prop where
  both : Both B i rb T R w
  only : Only (rb :: i.all) w0 w
  box : Holds w b0 c
  old : ∀ s ∈ rb :: i.all, s < b0
namespace Bo
variable {w0 : World} {B : Nat} {i : Ids} {rb : Nat} {T T' : Tb} {R R' : Rf} {w w' : World} {b0 : Nat} {c : Array Value}
theorem start (h : Both B i rb T R w) (c : Array Value) (t : TypeId) : Bo w B i rb T R w.heap.size c (w.alloc (.cells c t)) :=
  ⟨h.call (below_alloc _ _), Only.of_below _ (below_alloc _ _), Holds.new _ _ _, fun s hs => by
    rcases List.mem_cons.1 hs with rfl | hs
    · exact h.rf.lt
    · exact h.tb.lt s hs⟩
theorem call (h : Bo w0 B i rb T R b0 c w) (hb : Below w.heap.size w w') : Bo w0 B i rb T R b0 c w' := ⟨h.both.call hb, h.only.trans (Only.of_below _ hb), h.box.keep hb, h.old⟩
theorem left {v : Value} {e : Ending} (h : Bo w0 B i rb T R b0 c w) (ho : Out w i T' v e w') : Bo w0 B i rb T' R b0 c w' :=
  ⟨(h.both.left ho).2.1, h.only.trans (h.both.left ho).2.2, h.box.only ho.2.2 (fun hm => by have := h.old b0 (List.mem_cons_of_mem _ hm); omega), h.old⟩
theorem right {v : Value} {e : Ending} (h : Bo w0 B i rb T R b0 c w) (ho : RefPost w B rb R' v e w') : Bo w0 B i rb T R' b0 c w' :=
  ⟨(h.both.right ho).2.1, h.only.trans (h.both.right ho).2.2, h.box.only ho.2.2.1 (fun hm => by have := h.old rb List.mem_cons_self; have := List.mem_singleton.1 hm; omega), h.old⟩
end Bo

theorem rplace_as {w : World} {B rb : Nat} {R R' : Rf} (h : RfAt w B rb R) (hs : SmallR R) {v f d x a b : Int} (he : rplaceF R v f d x = ((a, b), R')) : Calls Try.prog 28 #[.pointer (some ⟨rb, 0, none⟩), .int .i64 v, .int .i64 f, .int .i64 d, .int .i64 x] w (RefPost w B rb R' (.tuple #[.int .i64 a, .int .i64 b])) := by
  have := rplace_any h hs v f d x
  rw [he] at this
  exact this
theorem rgrant_as {w : World} {B rb : Nat} {R R' : Rf} (h : RfAt w B rb R) (hs : SmallR R) {v f d x a b : Int} (he : rgrantF R v f d x = ((a, b), R')) : Calls Try.prog 29 #[.pointer (some ⟨rb, 0, none⟩), .int .i64 v, .int .i64 f, .int .i64 d, .int .i64 x] w (RefPost w B rb R' (.tuple #[.int .i64 a, .int .i64 b])) := by
  have := rgrant_any h hs v f d x
  rw [he] at this
  exact this
theorem rcommit_as {w : World} {B rb : Nat} {R R' : Rf} (h : RfAt w B rb R) {v f b : Int} {l : Ls} (h0 : fragB v f = true → findN (isF v f true) R.L ≠ 0) (he : rcommitF R v f = ((l, b), R')) : Calls Try.prog 30 #[.pointer (some ⟨rb, 0, none⟩), .int .i64 v, .int .i64 f] w (RefPost w B rb R' (.tuple #[lv l, .int .i64 b])) := by
  have := rcommit_any h v f h0
  rw [he] at this
  exact this
theorem rrevoke_as {w : World} {B rb : Nat} {R R' : Rf} (h : RfAt w B rb R) {v f b : Int} {l : Ls} (he : rrevokeF R v f = ((l, b), R')) : Calls Try.prog 37 #[.pointer (some ⟨rb, 0, none⟩), .int .i64 v, .int .i64 f] w (RefPost w B rb R' (.tuple #[lv l, .int .i64 b])) := by
  have := rrevoke_any h v f
  rw [he] at this
  exact this
theorem radv_as {w : World} {B rb : Nat} {R R' : Rf} (h : RfAt w B rb R) {t n : Int} (he : radvF R t = (n, R')) : Calls Try.prog 31 #[.pointer (some ⟨rb, 0, none⟩), .int .i64 t] w (RefPost w B rb R' (.int .i64 n)) := by
  have := radv_any h t
  rw [he] at this
  exact this
theorem rver_as {w : World} {B rb : Nat} {R R' : Rf} (h : RfAt w B rb R) (h1 : 0 ≤ R.num) (h2 : R.num ≤ 1048575) (h3 : 0 ≤ R.cnt) {a b : Int} (he : rverF R = ((a, b), R')) : Calls Try.prog 38 #[.pointer (some ⟨rb, 0, none⟩)] w (RefPost w B rb R' (.tuple #[.int .i64 a, .int .i64 b])) := by
  have := rver_any h h1 h2 h3
  rw [he] at this
  exact this

def DoPost (N : Nat) (B : Nat) (i : Ids) (rb : Nat) (T' : Tb) (w : World) (e : Ending) (w' : World) : Prop := e = .returned (.bool true) ∧ ∃ R', Rel N T' R' ∧ Both B i rb T' R' w' ∧ Only (rb :: i.all) w w'

set_option maxRecDepth 20000 in
set_option maxHeartbeats 2000000 in
theorem do_place {N B : Nat} {i : Ids} {rb : Nat} {T : Tb} {R : Rf} {w : World} (hb : Both B i rb T R w) (hr : Rel N T R) (hN : N ≤ 800) (v f d x : Int) :
    Calls Try.prog 15 #[i.ptr, .pointer (some ⟨rb, 0, none⟩), ov ⟨1, v, f, d, x⟩] w (DoPost (N + 1) B i rb (placeF T v f d x).2 w) := by
  have HS := Lib.hid (Bo.start hb (oc ⟨1, v, f, d, x⟩) 42)
  have HZ := Lib.hid (small_of hr (by omega))
  have HZR := Lib.hid (smallR_of hr (by omega))
  obtain ⟨h1, h2⟩ := hr.place v f d x
  obtain ⟨a, b, T', hT⟩ : ∃ a b T', placeF T v f d x = ((a, b), T') := ⟨_, _, _, rfl⟩
  obtain ⟨a', b', R', hR⟩ : ∃ a b R', rplaceF R v f d x = ((a, b), R') := ⟨_, _, _, rfl⟩
  rw [hT, hR] at h1 h2
  rw [hT]
  cases h1
  have HT := Lib.hid hT
  have HR := Lib.hid hR
  have HF := Lib.hid h2
  clear hT hR h2 hr hb
  go_enter Try.func15, Try.ntmps15
  go_wp2_with (first
    | (go_at_call 23; (with_reducible refine (place_as HS.out.both.tb HZ.out HT.out).mono ?_); intro e w1 ho; have HS1 := Lib.hid (HS.out.left ho); obtain ⟨rfl, -⟩ := ho; obtain ⟨c0, c1, c2, c3, c4, -⟩ := HS1.out.box.lay5)
    | (go_at_call 28; (with_reducible refine (rplace_as HS1.out.both.rf HZR.out HR.out).mono ?_); intro e w2 ho; have HS2 := Lib.hid (HS1.out.right ho); obtain ⟨rfl, -⟩ := ho))
  go_ret
  exact ⟨rfl, R', HF.out, HS2.out.both, HS2.out.only⟩

set_option maxRecDepth 20000 in
set_option maxHeartbeats 2000000 in
theorem do_grant {N B : Nat} {i : Ids} {rb : Nat} {T : Tb} {R : Rf} {w : World} (hb : Both B i rb T R w) (hr : Rel N T R) (hN : N ≤ 800) (v f d x : Int) :
    Calls Try.prog 15 #[i.ptr, .pointer (some ⟨rb, 0, none⟩), ov ⟨2, v, f, d, x⟩] w (DoPost (N + 1) B i rb (grantF T v f d x).2 w) := by
  have HS := Lib.hid (Bo.start hb (oc ⟨2, v, f, d, x⟩) 42)
  have HZ := Lib.hid (small_of hr (by omega))
  have HZR := Lib.hid (smallR_of hr (by omega))
  obtain ⟨h1, h2⟩ := hr.grant v f d x
  obtain ⟨a, b, T', hT⟩ : ∃ a b T', grantF T v f d x = ((a, b), T') := ⟨_, _, _, rfl⟩
  obtain ⟨a', b', R', hR⟩ : ∃ a b R', rgrantF R v f d x = ((a, b), R') := ⟨_, _, _, rfl⟩
  rw [hT, hR] at h1 h2
  rw [hT]
  cases h1
  have HT := Lib.hid hT
  have HR := Lib.hid hR
  have HF := Lib.hid h2
  clear hT hR h2 hr hb
  go_enter Try.func15, Try.ntmps15
  go_wp2_with (first
    | (go_at_call 21; (with_reducible refine (grant_as HS.out.both.tb HZ.out HT.out).mono ?_); intro e w1 ho; have HS1 := Lib.hid (HS.out.left ho); obtain ⟨rfl, -⟩ := ho; obtain ⟨c0, c1, c2, c3, c4, -⟩ := HS1.out.box.lay5)
    | (go_at_call 29; (with_reducible refine (rgrant_as HS1.out.both.rf HZR.out HR.out).mono ?_); intro e w2 ho; have HS2 := Lib.hid (HS1.out.right ho); obtain ⟨rfl, -⟩ := ho))
  go_ret
  exact ⟨rfl, R', HF.out, HS2.out.both, HS2.out.only⟩

set_option maxRecDepth 20000 in
set_option maxHeartbeats 2000000 in
theorem do_commit {N B : Nat} {i : Ids} {rb : Nat} {T : Tb} {R : Rf} {w : World} (hb : Both B i rb T R w) (hr : Rel N T R) (v f d x : Int) :
    Calls Try.prog 15 #[i.ptr, .pointer (some ⟨rb, 0, none⟩), ov ⟨3, v, f, d, x⟩] w (DoPost N B i rb (commitF T v f).2 w) := by
  have HS := Lib.hid (Bo.start hb (oc ⟨3, v, f, d, x⟩) 42)
  obtain ⟨h1, h2, h3⟩ := hr.commit v f
  obtain ⟨a, b, T', hT⟩ : ∃ a b T', commitF T v f = ((a, b), T') := ⟨_, _, _, rfl⟩
  obtain ⟨a', b', R', hR⟩ : ∃ a b R', rcommitF R v f = ((a, b), R') := ⟨_, _, _, rfl⟩
  rw [hT, hR] at h1 h2
  rw [hT]
  cases h1
  have HT := Lib.hid hT
  have HR := Lib.hid hR
  have HF := Lib.hid h2
  have H3 := Lib.hid h3
  clear hT hR h2 hr hb h3
  have heq := eql_ls a
  go_enter Try.func15, Try.ntmps15
  go_wp2_with (first
    | (go_at_call 18; (with_reducible refine (commit_as HS.out.both.tb HT.out).mono ?_); intro e w1 ho; have HS1 := Lib.hid ((HS.out.left ho).call (below_alloc _ (.cells (lc a) 46))); have HH1 := Holds.new w1 (lc a) 46; have hrl := (HS.out.left ho).both.rf.lt; obtain ⟨rfl, -⟩ := ho; obtain ⟨c0, c1, c2, c3, c4, -⟩ := HS1.out.box.lay5)
    | (go_at_call 30; (with_reducible refine (rcommit_as HS1.out.both.rf H3.out HR.out).mono ?_); intro e w2 ho; have HS2 := Lib.hid ((HS1.out.right ho).call (below_alloc _ (.cells (lc a) 46))); have HH2 : Holds w2 w1.heap.size (lc a) := HH1.only ho.2.2.1 (by simp; omega); obtain ⟨rfl, -⟩ := ho; obtain ⟨d0, d1, d2, d3, d4, d5, -, -, -, -, -, -, dl⟩ := HH2.lay6))
  go_ret
  exact ⟨rfl, R', HF.out, HS2.out.both, HS2.out.only⟩
set_option maxRecDepth 20000 in
set_option maxHeartbeats 2000000 in
theorem do_revoke {N B : Nat} {i : Ids} {rb : Nat} {T : Tb} {R : Rf} {w : World} (hb : Both B i rb T R w) (hr : Rel N T R) (v f d x : Int) :
    Calls Try.prog 15 #[i.ptr, .pointer (some ⟨rb, 0, none⟩), ov ⟨4, v, f, d, x⟩] w (DoPost N B i rb (endF T v f).2 w) := by
  have HS := Lib.hid (Bo.start hb (oc ⟨4, v, f, d, x⟩) 42)
  obtain ⟨h1, h2⟩ := hr.revoke v f
  obtain ⟨a, b, T', hT⟩ : ∃ a b T', endF T v f = ((a, b), T') := ⟨_, _, _, rfl⟩
  obtain ⟨a', b', R', hR⟩ : ∃ a b R', rrevokeF R v f = ((a, b), R') := ⟨_, _, _, rfl⟩
  rw [hT, hR] at h1 h2
  rw [hT]
  cases h1
  have HT := Lib.hid hT
  have HR := Lib.hid hR
  have HF := Lib.hid h2
  clear hT hR h2 hr hb
  have heq := eql_ls a
  go_enter Try.func15, Try.ntmps15
  go_wp2_with (first
    | (go_at_call 22; (with_reducible refine (revoke_as HS.out.both.tb HT.out).mono ?_); intro e w1 ho; have HS1 := Lib.hid ((HS.out.left ho).call (below_alloc _ (.cells (lc a) 46))); have HH1 := Holds.new w1 (lc a) 46; have hrl := (HS.out.left ho).both.rf.lt; obtain ⟨rfl, -⟩ := ho; obtain ⟨c0, c1, c2, c3, c4, -⟩ := HS1.out.box.lay5)
    | (go_at_call 37; (with_reducible refine (rrevoke_as HS1.out.both.rf HR.out).mono ?_); intro e w2 ho; have HS2 := Lib.hid ((HS1.out.right ho).call (below_alloc _ (.cells (lc a) 46))); have HH2 : Holds w2 w1.heap.size (lc a) := HH1.only ho.2.2.1 (by simp; omega); obtain ⟨rfl, -⟩ := ho; obtain ⟨d0, d1, d2, d3, d4, d5, -, -, -, -, -, -, dl⟩ := HH2.lay6))
  go_ret
  exact ⟨rfl, R', HF.out, HS2.out.both, HS2.out.only⟩
set_option maxRecDepth 20000 in
set_option maxHeartbeats 2000000 in
theorem do_ver {N B : Nat} {i : Ids} {rb : Nat} {T : Tb} {R : Rf} {w : World} (hb : Both B i rb T R w) (hr : Rel N T R) (v f d x : Int) :
    Calls Try.prog 15 #[i.ptr, .pointer (some ⟨rb, 0, none⟩), ov ⟨6, v, f, d, x⟩] w (DoPost N B i rb (verF T).2 w) := by
  have HS := Lib.hid (Bo.start hb (oc ⟨6, v, f, d, x⟩) 42)
  obtain ⟨h1, h2⟩ := hr.ver
  have HQ := Lib.hid (show 0 ≤ R.num ∧ R.num ≤ 1048575 ∧ 0 ≤ R.cnt by rw [← hr.term, ← hr.cnt]; exact ⟨hr.t0, hr.t1, hr.c0⟩)
  have HP := Lib.hid (show (0 ≤ T.term ∧ T.term ≤ 1048575) ∧ 0 ≤ T.count ∧ T.count ≤ 1048575 from ⟨⟨hr.t0, hr.t1⟩, hr.c0, hr.c1⟩)
  obtain ⟨a, b, T', hT⟩ : ∃ a b T', verF T = ((a, b), T') := ⟨_, _, _, rfl⟩
  obtain ⟨a', b', R', hR⟩ : ∃ a b R', rverF R = ((a, b), R') := ⟨_, _, _, rfl⟩
  rw [hT, hR] at h1 h2
  rw [hT]
  cases h1
  have HT := Lib.hid hT
  have HR := Lib.hid hR
  have HF := Lib.hid h2
  clear hT hR h2 hr hb
  go_enter Try.func15, Try.ntmps15
  go_wp2_with (first
    | (go_at_call 13; (with_reducible refine (ver_as HS.out.both.tb HP.out.1.1 HP.out.1.2 HP.out.2.1 HP.out.2.2 HT.out).mono ?_); intro e w1 ho; have HS1 := Lib.hid (HS.out.left ho); obtain ⟨rfl, -⟩ := ho; obtain ⟨c0, c1, c2, c3, c4, -⟩ := HS1.out.box.lay5)
    | (go_at_call 38; (with_reducible refine (rver_as HS1.out.both.rf HQ.out.1 HQ.out.2.1 HQ.out.2.2 HR.out).mono ?_); intro e w2 ho; have HS2 := Lib.hid (HS1.out.right ho); obtain ⟨rfl, -⟩ := ho))
  go_ret
  exact ⟨rfl, R', HF.out, HS2.out.both, HS2.out.only⟩

set_option maxRecDepth 20000 in
set_option maxHeartbeats 2000000 in
theorem do_else {N B : Nat} {i : Ids} {rb : Nat} {T : Tb} {R : Rf} {w : World} (hb : Both B i rb T R w) (hr : Rel N T R) (k v f d x : Int) (h1 : k ≠ 1) (h2 : k ≠ 2) (h3 : k ≠ 3) (h4 : k ≠ 4) (h5 : k ≠ 5) (h6 : k ≠ 6) :
    Calls Try.prog 15 #[i.ptr, .pointer (some ⟨rb, 0, none⟩), ov ⟨k, v, f, d, x⟩] w (DoPost N B i rb T w) := by
  have HS := Lib.hid (Bo.start hb (oc ⟨k, v, f, d, x⟩) 42)
  have HF := Lib.hid hr
  have q1 : (k == 1) = false := by simpa using h1
  have q2 : (k == 2) = false := by simpa using h2
  have q3 : (k == 3) = false := by simpa using h3
  have q4 : (k == 4) = false := by simpa using h4
  have q5 : (k == 5) = false := by simpa using h5
  have q6 : (k == 6) = false := by simpa using h6
  clear hr hb h1 h2 h3 h4 h5 h6
  go_enter Try.func15, Try.ntmps15
  go_wp2_with fail
  go_ret
  exact ⟨rfl, R, HF.out, HS.out.both, HS.out.only⟩

theorem box_at {w w' : World} {k v f d x : Int} (hb : Below (w.alloc (.cells #[.int .i64 k, .int .i64 v, .int .i64 f, .int .i64 d, .int .i64 x] 42)).heap.size (w.alloc (.cells #[.int .i64 k, .int .i64 v, .int .i64 f, .int .i64 d, .int .i64 x] 42)) w') :
    w'.cell? ⟨w.heap.size, 1, none⟩ = some (.int .i64 v) ∧ w'.cell? ⟨w.heap.size, 2, none⟩ = some (.int .i64 f) ∧ w'.cell? ⟨w.heap.size, 3, none⟩ = some (.int .i64 d) ∧ w'.cell? ⟨w.heap.size, 4, none⟩ = some (.int .i64 x) ∧ w.heap.size < w'.heap.size := by
  have hl : w.heap.size < (w.alloc (.cells #[.int .i64 k, .int .i64 v, .int .i64 f, .int .i64 d, .int .i64 x] 42)).heap.size := by simp
  have q := fun i => hb.cell (p := ⟨w.heap.size, i, none⟩) hl
  exact ⟨(q 1).trans (by simp), (q 2).trans (by simp), (q 3).trans (by simp), (q 4).trans (by simp), Nat.lt_of_lt_of_le hl hb.size⟩
end Go.Proofs.Ytnhpjmjinchamaa
