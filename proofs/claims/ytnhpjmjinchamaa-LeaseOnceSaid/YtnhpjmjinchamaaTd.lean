/- The walks of Place and Grant. -/
import Derived.Test.YtnhpjmjinchamaaTc
set_option linter.unusedVariables false
set_option linter.unusedSimpArgs false
set_option linter.unnecessarySimpa false
namespace Go.Proofs.Ytnhpjmjinchamaa
open Go Go.RowKit Go.MapKept Go.ChangeMaps

/-- numbers of generations are small -/
def Small (T : Tb) : Prop := ∀ k, 0 ≤ T.g k ∧ T.g k ≤ 4611686018427387904
/-- the outcome of a call that changes the table -/
def Out (w : World) (i : Ids) (T' : Tb) (v : Value) (e : Ending) (w' : World) : Prop := e = .returned v ∧ TbAt w' i T' ∧ Only i.all w w'
theorem Out.st {w w1 w' : World} {i : Ids} {T T' : Tb} {v : Value} {e : Ending} {L : List (Nat × Array Value)} (h : St w i L T w1) (ho : Out w1 i T' v e w') : e = .returned v ∧ St w i L T' w' :=
  ⟨ho.1, h.mm.turn ho.2.2, ho.2.1⟩

theorem frag_as {v f : Int} {b : Bool} (h : fragB v f = b) (w : World) : Calls Try.prog 41 #[.int .i64 v, .int .i64 f] w fun e w' => e = .returned (.bool b) ∧ w = w' := h ▸ frag_any v f w
theorem ext_as {v f : Int} {b : Bool} (h : extB v f = b) (w : World) : Calls Try.prog 42 #[.int .i64 v, .int .i64 f] w fun e w' => e = .returned (.bool b) ∧ w = w' := h ▸ ext_any v f w
theorem add_as {w : World} {i : Ids} {T T' : Tb} (h : TbAt w i T) (l : Ls) (hs : Small T) {n : Int} (hn : (addT T l).1.gen = n) (hT : (addT T l).2 = T') : Calls Try.prog 43 #[i.ptr, lv l] w (Out w i T' (.int .i64 n)) := by
  subst hn hT
  exact (add_any h l (hs _).1 (hs _).2).mono fun _ _ h => h

def placeF (T : Tb) (v f d x : Int) : (Int × Int) × Tb :=
  if fragB v f && extB d x then
    if (T.h (v, f)).isSome || (T.u (d, x)).isSome then ((0, 110), T) else (((addT T ⟨v, f, d, x, 0, false⟩).1.gen, 0), (addT T ⟨v, f, d, x, 0, false⟩).2)
  else ((0, 5), T)

theorem place_bad {w : World} {i : Ids} {T : Tb} (h : TbAt w i T) (v f d x : Int) (hb : (fragB v f && extB d x) = false) : Calls Try.prog 23 #[i.ptr, .int .i64 v, .int .i64 f, .int .i64 d, .int .i64 x] w (Out w i T (.tuple #[.int .i64 0, .int .i64 5])) := by
  have HT := Lib.hid h
  clear h
  by_cases h1 : fragB v f = true
  · have h2 : extB d x = false := by rw [h1] at hb; simpa using hb
    have H1 := Lib.hid h1
    have H2 := Lib.hid h2
    clear h1 h2 hb
    go_enter Try.func23, Try.ntmps23
    go_wp2_with (first
      | (go_at_call 41; refine (frag_as H1.out _).mono ?_; rintro e w1 ⟨rfl, rfl⟩)
      | (go_at_call 42; refine (ext_as H2.out _).mono ?_; rintro e w1 ⟨rfl, rfl⟩))
    go_ret2
    exact ⟨rfl, HT.out, Only.refl _ _⟩
  · have H1 := Lib.hid (Bool.eq_false_iff.2 h1)
    clear h1 hb
    go_enter Try.func23, Try.ntmps23
    go_wp2_with (first
      | (go_at_call 41; refine (frag_as H1.out _).mono ?_; rintro e w1 ⟨rfl, rfl⟩))
    go_ret2
    exact ⟨rfl, HT.out, Only.refl _ _⟩

theorem place_no {w : World} {i : Ids} {T : Tb} (h : TbAt w i T) (v f d x : Int) (hb : (fragB v f && extB d x) = true) (ht : ((T.h (v, f)).isSome || (T.u (d, x)).isSome) = true) : Calls Try.prog 23 #[i.ptr, .int .i64 v, .int .i64 f, .int .i64 d, .int .i64 x] w (Out w i T (.tuple #[.int .i64 0, .int .i64 110])) := by
  have HS := Lib.hid (St.start h)
  obtain ⟨h1, h2⟩ := Bool.and_eq_true_iff.1 hb
  have H1 := Lib.hid h1
  have H2 := Lib.hid h2
  obtain ⟨lh, hlh⟩ : ∃ l, (T.h (v, f)).getD noL = l := ⟨_, rfl⟩
  obtain ⟨lu, hlu⟩ : ∃ l, (T.u (d, x)).getD noL = l := ⟨_, rfl⟩
  obtain ⟨ch, hch⟩ : ∃ l, (T.h (v, f)).isSome = l := ⟨_, rfl⟩
  obtain ⟨cu, hcu⟩ : ∃ l, (T.u (d, x)).isSome = l := ⟨_, rfl⟩
  rw [hch, hcu] at ht
  have H3 := Lib.hid hlh
  have H4 := Lib.hid hlu
  have H5 := Lib.hid hch
  have H6 := Lib.hid hcu
  clear h h1 h2 hb hlh hlu hch hcu
  have hc : (ch = true) ∨ (ch = false ∧ cu = true) := by cases ch <;> simp_all
  clear ht
  rcases hc with rfl | ⟨rfl, rfl⟩
  all_goals
    go_enter Try.func23, Try.ntmps23
    go_wp2_with (first
      | (go_at_call 41; refine (frag_as H1.out _).mono ?_; rintro e w1 ⟨rfl, rfl⟩)
      | (go_at_call 42; refine (ext_as H2.out _).mono ?_; rintro e w1 ⟨rfl, rfl⟩)
      | (go_at_call 19; refine (home_as HS.out.tb v f H3.out H5.out).mono ?_; rintro e w1 ⟨rfl, hb1⟩; have HS1 := Lib.hid (HS.out.call hb1); clear hb1)
      | (go_at_call 25; refine (at_as (HS1.out.call (below_alloc _ _)).tb d x H4.out H6.out).mono ?_; rintro e w2 ⟨rfl, hb2⟩; have HS2 := Lib.hid ((HS1.out.call (below_alloc _ _)).call hb2); clear hb2))
    go_ret2
    have HS3 := HS2.out.call (below_alloc _ (.cells #[.int .i64 lu.vol, .int .i64 lu.frag, .int .i64 lu.drive, .int .i64 lu.ext, .int .i64 lu.gen, .bool lu.mov] 46))
    exact ⟨rfl, HS3.tb, HS3.mm.only⟩

theorem place_yes {w : World} {i : Ids} {T T' : Tb} (h : TbAt w i T) (hs : Small T) (v f d x : Int) (hb : (fragB v f && extB d x) = true) (ht : ((T.h (v, f)).isSome || (T.u (d, x)).isSome) = false) {n : Int} (hn : (addT T ⟨v, f, d, x, 0, false⟩).1.gen = n) (hT : (addT T ⟨v, f, d, x, 0, false⟩).2 = T') :
    Calls Try.prog 23 #[i.ptr, .int .i64 v, .int .i64 f, .int .i64 d, .int .i64 x] w (Out w i T' (.tuple #[.int .i64 n, .int .i64 0])) := by
  have HS := Lib.hid (St.start h)
  obtain ⟨h1, h2⟩ := Bool.and_eq_true_iff.1 hb
  obtain ⟨h5, h6⟩ := Bool.or_eq_false_iff.1 ht
  have H1 := Lib.hid h1
  have H2 := Lib.hid h2
  have H5 := Lib.hid h5
  have H6 := Lib.hid h6
  have H7 := Lib.hid hn
  have H8 := Lib.hid hT
  have H9 := Lib.hid hs
  obtain ⟨lh, hlh⟩ : ∃ l, (T.h (v, f)).getD noL = l := ⟨_, rfl⟩
  obtain ⟨lu, hlu⟩ : ∃ l, (T.u (d, x)).getD noL = l := ⟨_, rfl⟩
  have H3 := Lib.hid hlh
  have H4 := Lib.hid hlu
  clear h h1 h2 hb hlh hlu h5 h6 hn hT hs ht
  go_enter Try.func23, Try.ntmps23
  go_wp2_with (first
    | (go_at_call 41; refine (frag_as H1.out _).mono ?_; rintro e w1 ⟨rfl, rfl⟩)
    | (go_at_call 42; refine (ext_as H2.out _).mono ?_; rintro e w1 ⟨rfl, rfl⟩)
    | (go_at_call 19; refine (home_as HS.out.tb v f H3.out H5.out).mono ?_; rintro e w1 ⟨rfl, hb1⟩; have HS1 := Lib.hid (HS.out.call hb1); clear hb1)
    | (go_at_call 25; refine (at_as (HS1.out.call (below_alloc _ _)).tb d x H4.out H6.out).mono ?_; rintro e w2 ⟨rfl, hb2⟩; have HS2 := Lib.hid ((HS1.out.call (below_alloc _ _)).call hb2); clear hb2)
    | (go_at_call 43; refine (add_as (HS2.out.call (below_alloc _ _)).tb ⟨v, f, d, x, 0, false⟩ H9.out H7.out H8.out).mono ?_; intro e w3 ho; have HS3 := Lib.hid (Out.st (HS2.out.call (below_alloc _ _)) ho).2; obtain ⟨rfl, -, -⟩ := ho))
  go_ret2
  exact ⟨rfl, HS3.out.tb, HS3.out.mm.only⟩

theorem place_any {w : World} {i : Ids} {T : Tb} (h : TbAt w i T) (hs : Small T) (v f d x : Int) : Calls Try.prog 23 #[i.ptr, .int .i64 v, .int .i64 f, .int .i64 d, .int .i64 x] w (Out w i (placeF T v f d x).2 (.tuple #[.int .i64 (placeF T v f d x).1.1, .int .i64 (placeF T v f d x).1.2])) := by
  unfold placeF
  split
  · split
    · exact place_no h v f d x (by assumption) (by assumption)
    · exact place_yes h hs v f d x (by assumption) (Bool.eq_false_iff.2 (by assumption)) rfl rfl
  · exact place_bad h v f d x (Bool.eq_false_iff.2 (by assumption))

def grantF (T : Tb) (v f d x : Int) : (Int × Int) × Tb :=
  if fragB v f && extB d x then
    if !(T.h (v, f)).isSome || (T.m (v, f)).isSome || ((T.h (v, f)).getD noL).drive == d || (T.u (d, x)).isSome then ((0, 110), T) else (((addT T ⟨v, f, d, x, 0, true⟩).1.gen, 0), (addT T ⟨v, f, d, x, 0, true⟩).2)
  else ((0, 5), T)

theorem grant_bad {w : World} {i : Ids} {T : Tb} (h : TbAt w i T) (v f d x : Int) (hb : (fragB v f && extB d x) = false) : Calls Try.prog 21 #[i.ptr, .int .i64 v, .int .i64 f, .int .i64 d, .int .i64 x] w (Out w i T (.tuple #[.int .i64 0, .int .i64 5])) := by
  have HT := Lib.hid h
  clear h
  by_cases h1 : fragB v f = true
  · have h2 : extB d x = false := by rw [h1] at hb; simpa using hb
    have H1 := Lib.hid h1
    have H2 := Lib.hid h2
    clear h1 h2 hb
    go_enter Try.func21, Try.ntmps21
    go_wp2_with (first
      | (go_at_call 41; refine (frag_as H1.out _).mono ?_; rintro e w1 ⟨rfl, rfl⟩)
      | (go_at_call 42; refine (ext_as H2.out _).mono ?_; rintro e w1 ⟨rfl, rfl⟩))
    go_ret2
    exact ⟨rfl, HT.out, Only.refl _ _⟩
  · have H1 := Lib.hid (Bool.eq_false_iff.2 h1)
    clear h1 hb
    go_enter Try.func21, Try.ntmps21
    go_wp2_with (first
      | (go_at_call 41; refine (frag_as H1.out _).mono ?_; rintro e w1 ⟨rfl, rfl⟩))
    go_ret2
    exact ⟨rfl, HT.out, Only.refl _ _⟩

set_option maxHeartbeats 1000000 in
theorem grant_no {w : World} {i : Ids} {T : Tb} (h : TbAt w i T) (v f d x : Int) (hb : (fragB v f && extB d x) = true) (ht : (!(T.h (v, f)).isSome || (T.m (v, f)).isSome || ((T.h (v, f)).getD noL).drive == d || (T.u (d, x)).isSome) = true) : Calls Try.prog 21 #[i.ptr, .int .i64 v, .int .i64 f, .int .i64 d, .int .i64 x] w (Out w i T (.tuple #[.int .i64 0, .int .i64 110])) := by
  have HS := Lib.hid (St.start h)
  obtain ⟨h1, h2⟩ := Bool.and_eq_true_iff.1 hb
  have H1 := Lib.hid h1
  have H2 := Lib.hid h2
  obtain ⟨lh, hlh⟩ : ∃ l, (T.h (v, f)).getD noL = l := ⟨_, rfl⟩
  obtain ⟨lm, hlm⟩ : ∃ l, (T.m (v, f)).getD noL = l := ⟨_, rfl⟩
  obtain ⟨lu, hlu⟩ : ∃ l, (T.u (d, x)).getD noL = l := ⟨_, rfl⟩
  obtain ⟨ch, hch⟩ : ∃ l, (T.h (v, f)).isSome = l := ⟨_, rfl⟩
  obtain ⟨cm, hcm⟩ : ∃ l, (T.m (v, f)).isSome = l := ⟨_, rfl⟩
  obtain ⟨cu, hcu⟩ : ∃ l, (T.u (d, x)).isSome = l := ⟨_, rfl⟩
  rw [hch, hcu, hcm, hlh] at ht
  have H3 := Lib.hid hlh
  have H4 := Lib.hid hlu
  have H5 := Lib.hid hch
  have H6 := Lib.hid hcu
  have H7 := Lib.hid hlm
  have H8 := Lib.hid hcm
  clear h h1 h2 hb hlh hlu hch hcu hlm hcm
  obtain ⟨eq, heq⟩ : ∃ b, (lh.drive == d) = b := ⟨_, rfl⟩
  rw [heq] at ht
  have hc : (ch = false) ∨ (ch = true ∧ cm = true) ∨ (ch = true ∧ cm = false ∧ eq = true) ∨ (ch = true ∧ cm = false ∧ eq = false ∧ cu = true) := by cases ch <;> cases cm <;> cases eq <;> simp_all
  clear ht
  rcases hc with rfl | ⟨rfl, rfl⟩ | ⟨rfl, rfl, rfl⟩ | ⟨rfl, rfl, rfl, rfl⟩
  all_goals
    go_enter Try.func21, Try.ntmps21
    go_wp2_with (first
      | (go_at_call 41; refine (frag_as H1.out _).mono ?_; rintro e w1 ⟨rfl, rfl⟩)
      | (go_at_call 42; refine (ext_as H2.out _).mono ?_; rintro e w1 ⟨rfl, rfl⟩)
      | (go_at_call 19; refine (home_as HS.out.tb v f H3.out H5.out).mono ?_; rintro e w1 ⟨rfl, hb1⟩; have HS1 := Lib.hid ((HS.out.call hb1).push _ (lc lh) 46 rfl); clear hb1)
      | (go_at_call 40; refine (target_as HS1.out.tb v f H7.out H8.out).mono ?_; rintro e w2 ⟨rfl, hb2⟩; have HS2 := Lib.hid ((HS1.out.call hb2).push _ (lc lm) 46 rfl); clear hb2)
      | (go_at_call 25; refine (at_as HS2.out.tb d x H4.out H6.out).mono ?_; rintro e w3 ⟨rfl, hb3⟩; have HS3 := Lib.hid ((HS2.out.call hb3).push _ (lc lu) 46 rfl); have hd2 : w3.cell? ⟨w1.heap.size, 2, none⟩ = some (.int .i64 lh.drive) := (HS2.out.call hb3).mm.get (k := 1) (i := 2) rfl rfl; have hsz : w1.heap.size < w3.heap.size := (HS2.out.call hb3).mm.lt (k := 1) rfl; clear hb3))
    go_ret2
    exact ⟨rfl, HS3.out.tb, HS3.out.mm.only⟩

set_option maxHeartbeats 1000000 in
theorem grant_yes {w : World} {i : Ids} {T T' : Tb} (h : TbAt w i T) (hs : Small T) (v f d x : Int) (hb : (fragB v f && extB d x) = true) (ht : (!(T.h (v, f)).isSome || (T.m (v, f)).isSome || ((T.h (v, f)).getD noL).drive == d || (T.u (d, x)).isSome) = false) {n : Int} (hn : (addT T ⟨v, f, d, x, 0, true⟩).1.gen = n) (hT : (addT T ⟨v, f, d, x, 0, true⟩).2 = T') :
    Calls Try.prog 21 #[i.ptr, .int .i64 v, .int .i64 f, .int .i64 d, .int .i64 x] w (Out w i T' (.tuple #[.int .i64 n, .int .i64 0])) := by
  have HS := Lib.hid (St.start h)
  obtain ⟨h1, h2⟩ := Bool.and_eq_true_iff.1 hb
  have H1 := Lib.hid h1
  have H2 := Lib.hid h2
  obtain ⟨lh, hlh⟩ : ∃ l, (T.h (v, f)).getD noL = l := ⟨_, rfl⟩
  obtain ⟨lm, hlm⟩ : ∃ l, (T.m (v, f)).getD noL = l := ⟨_, rfl⟩
  obtain ⟨lu, hlu⟩ : ∃ l, (T.u (d, x)).getD noL = l := ⟨_, rfl⟩
  obtain ⟨ch, hch⟩ : ∃ l, (T.h (v, f)).isSome = l := ⟨_, rfl⟩
  obtain ⟨cm, hcm⟩ : ∃ l, (T.m (v, f)).isSome = l := ⟨_, rfl⟩
  obtain ⟨cu, hcu⟩ : ∃ l, (T.u (d, x)).isSome = l := ⟨_, rfl⟩
  rw [hch, hcu, hcm, hlh] at ht
  have H3 := Lib.hid hlh
  have H4 := Lib.hid hlu
  have H5 := Lib.hid hch
  have H6 := Lib.hid hcu
  have H7 := Lib.hid hlm
  have H8 := Lib.hid hcm
  have HN := Lib.hid hn
  have HT := Lib.hid hT
  have HZ := Lib.hid hs
  clear h h1 h2 hb hlh hlu hch hcu hlm hcm hn hT hs
  have hc : ch = true ∧ cm = false ∧ (lh.drive == d) = false ∧ cu = false := by cases ch <;> cases cm <;> simp_all
  clear ht
  obtain ⟨rfl, rfl, heq, rfl⟩ := hc
  go_enter Try.func21, Try.ntmps21
  go_wp2_with (first
    | (go_at_call 41; refine (frag_as H1.out _).mono ?_; rintro e w1 ⟨rfl, rfl⟩)
    | (go_at_call 42; refine (ext_as H2.out _).mono ?_; rintro e w1 ⟨rfl, rfl⟩)
    | (go_at_call 19; refine (home_as HS.out.tb v f H3.out H5.out).mono ?_; rintro e w1 ⟨rfl, hb1⟩; have HS1 := Lib.hid ((HS.out.call hb1).push _ (lc lh) 46 rfl); clear hb1)
    | (go_at_call 40; refine (target_as HS1.out.tb v f H7.out H8.out).mono ?_; rintro e w2 ⟨rfl, hb2⟩; have HS2 := Lib.hid ((HS1.out.call hb2).push _ (lc lm) 46 rfl); clear hb2)
    | (go_at_call 25; refine (at_as HS2.out.tb d x H4.out H6.out).mono ?_; rintro e w3 ⟨rfl, hb3⟩; have HS3 := Lib.hid ((HS2.out.call hb3).push _ (lc lu) 46 rfl); have hd2 : w3.cell? ⟨w1.heap.size, 2, none⟩ = some (.int .i64 lh.drive) := (HS2.out.call hb3).mm.get (k := 1) (i := 2) rfl rfl; have hsz : w1.heap.size < w3.heap.size := (HS2.out.call hb3).mm.lt (k := 1) rfl; clear hb3)
    | (go_at_call 43; refine (add_as HS3.out.tb ⟨v, f, d, x, 0, true⟩ HZ.out HN.out HT.out).mono ?_; intro e w4 ho; have HS4 := Lib.hid (Out.st HS3.out ho).2; obtain ⟨rfl, -, -⟩ := ho))
  go_ret2
  exact ⟨rfl, HS4.out.tb, HS4.out.mm.only⟩

theorem grant_any {w : World} {i : Ids} {T : Tb} (h : TbAt w i T) (hs : Small T) (v f d x : Int) : Calls Try.prog 21 #[i.ptr, .int .i64 v, .int .i64 f, .int .i64 d, .int .i64 x] w (Out w i (grantF T v f d x).2 (.tuple #[.int .i64 (grantF T v f d x).1.1, .int .i64 (grantF T v f d x).1.2])) := by
  unfold grantF
  split
  · split
    · exact grant_no h v f d x (by assumption) (by assumption)
    · exact grant_yes h hs v f d x (by assumption) (Bool.eq_false_iff.2 (by assumption)) rfl rfl
  · exact grant_bad h v f d x (Bool.eq_false_iff.2 (by assumption))
end Go.Proofs.Ytnhpjmjinchamaa
