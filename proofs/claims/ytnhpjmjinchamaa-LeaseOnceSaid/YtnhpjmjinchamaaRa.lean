/- The reference's table in memory; the walks of find, At, fragment, extent, Before. -/
import Derived.Test.YtnhpjmjinchamaaTi
import Derived.Laws.AppendOwn
import Derived.Laws.OwnMore
set_option linter.unusedVariables false
set_option linter.unusedSimpArgs false
set_option linter.unnecessarySimpa false
namespace Go.Proofs.Ytnhpjmjinchamaa
open Go Go.RowKit

structure Rf where
  G : Pk → Int
  L : List Ls
  num : Int
  cnt : Int

def flat (L : List Ls) : List Value := L.flatMap fun l => (lc l).toList
theorem flat_len (L : List Ls) : (flat L).length = L.length * 6 := by
  induction L with
  | nil => rfl
  | cons l L ih => unfold flat at *; simp [ih]; omega
theorem flat_append (L M : List Ls) : flat (L ++ M) = flat L ++ flat M := by unfold flat; simp
theorem flat_get : ∀ (L : List Ls) (i j : Nat) (l : Ls) (v : Value), L[i]? = some l → (lc l)[j]? = some v → (flat L)[i * 6 + j]? = some v
  | [], i, j, l, v, h, _ => by simp at h
  | x :: L, 0, j, l, v, h, hv => by
    simp at h; subst h
    have hj : j < 6 := by have := (Array.getElem?_eq_some_iff.1 hv).1; simpa using this
    unfold flat
    rw [List.flatMap_cons, List.getElem?_append_left (by simp; omega)]
    simpa using hv
  | x :: L, i + 1, j, l, v, h, hv => by
    have := flat_get L i j l v (by simpa using h) hv
    unfold flat at *
    rw [List.flatMap_cons, List.getElem?_append_right (by simp; omega)]
    simpa [show (i + 1) * 6 + j - 6 = i * 6 + j by omega] using this

/-- the slice value v owns the leases L, in a block from B on -/
abbrev Rows (w : World) (B : Nat) (v : Value) (L : List Ls) : Prop := w.ownsRow B 46 6 v L.length (flat L)

theorem owns_same {w w' : World} {B e s n : Nat} {v : Value} {xs : List Value} (h : w.ownsRow B e s v n xs) (hb : ∀ k, v.ownBlock = some k → w'.heap[k]? = w.heap[k]?) : w'.ownsRow B e s v n xs := by
  refine ⟨h.1, ?_⟩
  rcases h.2 with h1 | ⟨g, cap, cur, hv, hBg, hg, r⟩
  · exact .inl h1
  · exact .inr ⟨g, cap, cur, hv, hBg, by rw [hb g (by rw [hv]; rfl)]; exact hg, r⟩

/-- the reference's table at rb reads as R; all of it lies from B on -/
structure RfAt (w : World) (B rb : Nat) (R : Rf) : Prop where
  base : B ≤ rb
  lt : rb < w.heap.size
  giv : ∀ v f : Nat, v < 12 → f < 8 → w.cell? ⟨rb, v * 8 + f, none⟩ = some (.int .i64 (R.G ((v : Int), (f : Int))))
  row : ∃ vL, w.cell? ⟨rb, 96, none⟩ = some vL ∧ Rows w B vL R.L ∧ vL.ownBlock ≠ some rb
  num : w.cell? ⟨rb, 97, none⟩ = some (.int .i64 R.num)
  cnt : w.cell? ⟨rb, 98, none⟩ = some (.int .i64 R.cnt)
  thaw : Thaw w rb
  short : R.L.length ≤ 1000

section
variable {w w' : World} {B rb : Nat} {R : Rf}
theorem RfAt.keep (h : RfAt w B rb R) (hs : w.heap.size ≤ w'.heap.size) (hk : ∀ k, B ≤ k → k < w.heap.size → w'.heap[k]? = w.heap[k]?) : RfAt w' B rb R := by
  have e := hk rb h.base h.lt
  have hc : ∀ i, w'.cell? ⟨rb, i, none⟩ = w.cell? ⟨rb, i, none⟩ := fun i => World.cell?_of_block (w := w) (a := ⟨rb, i, none⟩) e
  obtain ⟨vL, h1, h2, h3⟩ := h.row
  refine ⟨h.base, Nat.lt_of_lt_of_le h.lt hs, fun v f hv hf => (hc _).trans (h.giv v f hv hf), ⟨vL, (hc _).trans h1, owns_same h2 fun k hkk => hk k (h2.lt k hkk).1 (h2.lt k hkk).2, h3⟩, (hc _).trans h.num, (hc _).trans h.cnt, h.thaw.same e, h.short⟩
theorem RfAt.only {S : List Nat} (h : RfAt w B rb R) (ho : Only S w w') (hS : ∀ s ∈ S, s < B) : RfAt w' B rb R :=
  h.keep ho.size fun k hk hl => ho.block k hl fun hs => by have := hS k hs; omega
theorem RfAt.below (h : RfAt w B rb R) (hb : Below w.heap.size w w') : RfAt w' B rb R := h.keep hb.size fun k _ hl => hb.block k hl

/-- lease number i in memory -/
theorem rows_at {vL : Value} {L : List Ls} (h : Rows w B vL L) {i : Nat} {l : Ls} (hi : L[i]? = some l) : ∃ g cap, vL = .slice (some ⟨g, 0, none⟩) L.length cap ∧ B ≤ g ∧ g < w.heap.size ∧ ∀ j v, (lc l)[j]? = some v → w.cell? ⟨g, i * 6 + j, none⟩ = some v := by
  have hlt : i < L.length := (List.getElem?_eq_some_iff.1 hi).1
  rcases h.2 with ⟨rfl, h0⟩ | ⟨g, cap, cur, rfl, hB, hg, hnc, hcm, hcs, htk⟩
  · omega
  · refine ⟨g, cap, rfl, hB, (Array.getElem?_eq_some_iff.1 hg).1, fun j v hv => ?_⟩
    have h1 := flat_get L i j l v hi hv
    have hj : j < 6 := by have := (Array.getElem?_eq_some_iff.1 hv).1; simpa using this
    rw [← htk, List.getElem?_take, if_pos (by omega)] at h1
    simp only [World.cell?, hg]
    simpa using h1
theorem rows_val {vL : Value} {L : List Ls} (h : Rows w B vL L) : ∃ a cap, vL = .slice a L.length cap := by
  rcases h.2 with ⟨rfl, h0⟩ | ⟨g, cap, cur, rfl, _⟩
  · exact ⟨none, 0, by rw [h0]⟩
  · exact ⟨_, _, rfl⟩
end

def isF (v f : Int) (m : Bool) (l : Ls) : Bool := l.vol == v && l.frag == f && l.mov == m
def isU (d x : Int) (l : Ls) : Bool := l.drive == d && l.ext == x
def findN (p : Ls → Bool) (L : List Ls) : Int := match L.findIdx? p with
  | some k => k
  | none => -1
theorem findN_some {p : Ls → Bool} {L : List Ls} {k : Nat} {l : Ls} (hl : L[k]? = some l) (hp : p l = true) (hb : ∀ (j : Nat) (x : Ls), j < k → L[j]? = some x → p x = false) : findN p L = k := by
  unfold findN
  obtain ⟨hk, rfl⟩ := List.getElem?_eq_some_iff.1 hl
  rw [List.findIdx?_eq_some_iff_getElem.2 ⟨hk, hp, fun j hj => by rw [hb j L[j] hj (by simp)]; simp⟩]
theorem findN_none {p : Ls → Bool} {L : List Ls} (hb : ∀ x ∈ L, p x = false) : findN p L = -1 := by
  unfold findN
  rw [List.findIdx?_eq_none_iff.2 hb]
theorem find_some {p : Ls → Bool} {L : List Ls} {k : Nat} {l : Ls} (hl : L[k]? = some l) (hp : p l = true) (hb : ∀ (j : Nat) (x : Ls), j < k → L[j]? = some x → p x = false) : L.find? p = some l := by
  obtain ⟨hk, rfl⟩ := List.getElem?_eq_some_iff.1 hl
  exact List.find?_eq_some_iff_getElem.2 ⟨hp, k, hk, rfl, fun j hj => by rw [hb j L[j] hj (by simp)]; rfl⟩
theorem find_none {p : Ls → Bool} {L : List Ls} (hb : ∀ x ∈ L, p x = false) : L.find? p = none := List.find?_eq_none.2 fun x hx => by rw [hb x hx]; simp

theorem rfrag_any (v f : Int) (w : World) : Calls Try.prog 50 #[.int .i64 v, .int .i64 f] w fun e w' => e = .returned (.bool (fragB v f)) ∧ w = w' := by
  unfold fragB
  by_cases a : 0 ≤ v <;> by_cases b : v < 12 <;> by_cases c : 0 ≤ f <;> by_cases d : f < 8
  all_goals
    go_enter Try.func50, Try.ntmps50
    go_wp2
    go_ret
    exact ⟨by simp [a, b, c, d], rfl⟩
theorem rext_any (v f : Int) (w : World) : Calls Try.prog 51 #[.int .i64 v, .int .i64 f] w fun e w' => e = .returned (.bool (extB v f)) ∧ w = w' := by
  unfold extB
  by_cases a : 0 ≤ v <;> by_cases b : v < 24 <;> by_cases c : 0 ≤ f <;> by_cases d : f < 16
  all_goals
    go_enter Try.func51, Try.ntmps51
    go_wp2
    go_ret
    exact ⟨by simp [a, b, c, d], rfl⟩
theorem rfrag_as {v f : Int} {b : Bool} (h : fragB v f = b) (w : World) : Calls Try.prog 50 #[.int .i64 v, .int .i64 f] w fun e w' => e = .returned (.bool b) ∧ w = w' := h ▸ rfrag_any v f w
theorem rext_as {v f : Int} {b : Bool} (h : extB v f = b) (w : World) : Calls Try.prog 51 #[.int .i64 v, .int .i64 f] w fun e w' => e = .returned (.bool b) ∧ w = w' := h ▸ rext_any v f w

set_option maxRecDepth 20000 in
set_option maxHeartbeats 2000000 in
theorem find_any {w : World} {B rb : Nat} {R : Rf} (h : RfAt w B rb R) (v f : Int) (m : Bool) : Calls Try.prog 52 #[.pointer (some ⟨rb, 0, none⟩), .int .i64 v, .int .i64 f, .bool m] w fun e w' => e = .returned (.int .i64 (findN (isF v f m) R.L)) ∧ w = w' := by
  obtain ⟨vL, c96, hrow, -⟩ := h.row
  obtain ⟨a, cap, rfl⟩ := rows_val hrow
  have hsh := h.short
  obtain ⟨n, hn⟩ : ∃ n, n = R.L.length := ⟨_, rfl⟩
  rw [← hn] at c96 hsh
  have HR := Lib.hid hrow
  have HN := Lib.hid hn
  obtain ⟨r, hr⟩ : ∃ r, findN (isF v f m) R.L = r := ⟨_, rfl⟩
  rw [hr]
  have HF := Lib.hid hr
  clear h hrow hn hr
  go_enter Try.func52, Try.ntmps52
  go_wp2_with fail
  go_loop [9] (fun i => ∃ k : Nat, k ≤ n ∧ i = .int .i64 k ∧ Hid (∀ (j : Nat) (x : Ls), j < k → R.L[j]? = some x → isF v f m x = false)) (fun i => n - (intOf i).toNat)
  case atStart => exact ⟨0, by omega, rfl, fun j x hj => by omega⟩
  case round =>
    obtain ⟨k, hk, rfl, HP⟩ := hrel
    by_cases hkn : k < n
    · obtain ⟨l, hl⟩ : ∃ l, R.L[k]? = some l := ⟨R.L[k]'(by have := HN.out; omega), by simp⟩
      obtain ⟨g, cap', he, -, -, hcell⟩ := rows_at HR.out hl
      cases he
      have b0 := hcell 0 _ rfl
      have b1 := hcell 1 _ rfl
      have b5 := hcell 5 _ rfl
      have HL := Lib.hid hl
      clear hcell hl
      simp only [Nat.add_zero] at b0
      obtain ⟨q0, hq0⟩ : ∃ q, (l.vol == v) = q := ⟨_, rfl⟩
      obtain ⟨q1, hq1⟩ : ∃ q, (l.frag == f) = q := ⟨_, rfl⟩
      obtain ⟨q2, hq2⟩ : ∃ q, (l.mov == m) = q := ⟨_, rfl⟩
      have HQ := Lib.hid (show isF v f m l = (q0 && q1 && q2) by unfold isF; rw [hq0, hq1, hq2])
      rcases three_of q0 q1 q2 with ⟨rfl, rfl, rfl⟩ | rfl | ⟨rfl, rfl⟩ | ⟨rfl, rfl, rfl⟩
      · go_wp2_with fail
        go_ret
        exact ⟨by rw [← HF.out, findN_some HL.out HQ.out HP.out]; rfl, rfl⟩
      all_goals
        go_wp2_with fail
        go_round
        case rel =>
          refine ⟨k + 1, by omega, by go_num, fun j x hj hx => ?_⟩
          by_cases e : j < k
          · exact HP.out j x e hx
          · obtain rfl : j = k := by omega
            have := HL.out
            rw [hx] at this
            cases this
            exact HQ.out
        case measure => simp [intOf]; omega
    · go_wp2_with fail
      go_ret
      refine ⟨?_, rfl⟩
      rw [← HF.out, findN_none fun x hx => ?_]
      · rfl
      · obtain ⟨j, hj, rfl⟩ := List.getElem_of_mem hx
        exact HP.out j _ (by have := HN.out; omega) (by simp)

set_option maxRecDepth 20000 in
set_option maxHeartbeats 2000000 in
theorem rat_any {w : World} {B rb : Nat} {R : Rf} (h : RfAt w B rb R) (d x : Int) : Calls Try.prog 47 #[.pointer (some ⟨rb, 0, none⟩), .int .i64 d, .int .i64 x] w fun e w' => e = .returned (.tuple #[lv ((R.L.find? (isU d x)).getD noL), .bool (R.L.find? (isU d x)).isSome]) ∧ Below w.heap.size w w' := by
  obtain ⟨vL, c96, hrow, -⟩ := h.row
  obtain ⟨a, cap, rfl⟩ := rows_val hrow
  have hsh := h.short
  have hlt := h.lt
  obtain ⟨n, hn⟩ : ∃ n, n = R.L.length := ⟨_, rfl⟩
  rw [← hn] at c96 hsh
  have HR := Lib.hid hrow
  have HN := Lib.hid hn
  obtain ⟨r, hr⟩ : ∃ r, (R.L.find? (isU d x)).getD noL = r := ⟨_, rfl⟩
  obtain ⟨o, ho⟩ : ∃ r, (R.L.find? (isU d x)).isSome = r := ⟨_, rfl⟩
  rw [hr, ho]
  have HF := Lib.hid hr
  have HO := Lib.hid ho
  clear h hrow hn hr ho
  go_enter Try.func47, Try.ntmps47
  go_wp2_with fail
  go_loop [8] (fun i => ∃ k : Nat, k ≤ n ∧ i = .int .i64 k ∧ Hid (∀ (j : Nat) (y : Ls), j < k → R.L[j]? = some y → isU d x y = false)) (fun i => n - (intOf i).toNat)
  case atStart => exact ⟨0, by omega, rfl, fun j x hj => by omega⟩
  case round =>
    obtain ⟨k, hk, rfl, HP⟩ := hrel
    by_cases hkn : k < n
    · obtain ⟨l, hl⟩ : ∃ l, R.L[k]? = some l := ⟨R.L[k]'(by have := HN.out; omega), by simp⟩
      obtain ⟨g, cap', he, -, hg, hcell⟩ := rows_at HR.out hl
      cases he
      have b0 := hcell 0 _ rfl
      have b1 := hcell 1 _ rfl
      have b2 := hcell 2 _ rfl
      have b3 := hcell 3 _ rfl
      have b4 := hcell 4 _ rfl
      have b5 := hcell 5 _ rfl
      have HL := Lib.hid hl
      clear hcell hl
      simp only [Nat.add_zero] at b0
      obtain ⟨q0, hq0⟩ : ∃ q, (l.drive == d) = q := ⟨_, rfl⟩
      obtain ⟨q1, hq1⟩ : ∃ q, (l.ext == x) = q := ⟨_, rfl⟩
      have HQ := Lib.hid (show isU d x l = (q0 && q1) by unfold isU; rw [hq0, hq1])
      have hc : (q0 = true ∧ q1 = true) ∨ q0 = false ∨ (q0 = true ∧ q1 = false) := by cases q0 <;> cases q1 <;> simp
      rcases hc with ⟨rfl, rfl⟩ | rfl | ⟨rfl, rfl⟩
      · go_wp2_with fail
        exact bodyPost_ret (v := .tuple #[lv l, .bool true]) (by simp [results, Try.results47, go_sem]) rfl ⟨by rw [← HF.out, ← HO.out, find_some HL.out HQ.out HP.out]; rfl, below_alloc _ _⟩
      all_goals
        go_wp2_with fail
        go_round
        case rel =>
          refine ⟨k + 1, by omega, by go_num, fun j x hj hx => ?_⟩
          by_cases e : j < k
          · exact HP.out j x e hx
          · obtain rfl : j = k := by omega
            have := HL.out
            rw [hx] at this
            cases this
            exact HQ.out
        case measure => simp [intOf]; omega
    · go_wp2_with fail
      have hfn : R.L.find? (isU d x) = none := find_none fun y hy => by
        obtain ⟨j, hj, rfl⟩ := List.getElem_of_mem hy
        exact HP.out j _ (by have := HN.out; omega) (by simp)
      exact bodyPost_ret (v := .tuple #[lv noL, .bool false]) (by simp [results, Try.results47, go_sem]) rfl ⟨by rw [← HF.out, ← HO.out, hfn]; rfl, below_alloc _ _⟩
end Go.Proofs.Ytnhpjmjinchamaa
