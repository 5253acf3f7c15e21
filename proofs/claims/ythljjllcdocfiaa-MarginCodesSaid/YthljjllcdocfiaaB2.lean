/- Slices of slices of numbers. -/
import Derived.Test.YthljjllcdocfiaaB1
set_option linter.unusedVariables false
set_option linter.unusedSimpArgs false
set_option linter.unnecessarySimpa false
namespace Go.Proofs.Ythljjllcdocfiaa
open Go Go.RowKit Go.MapKept

abbrev Hd := Option Addr × Nat × Nat
def hv (h : Hd) : Value := .slice h.1 h.2.1 h.2.2
def eH : Enc Hd := ⟨1, fun h => [hv h], fun _ => rfl, by decide, fun x v hv => by simp at hv; subst hv; rfl⟩
theorem info31 : (Try.prog.info? 31).map (fun i => (i.zero, i.size, i.bytes)) = some (some (.slice none 0 0), 1, 24) := by kernel_rfl
theorem elt35 : Elt 35 31 1 24 := by
  obtain ⟨i, hi, hz0, hz1, hz2⟩ := info_parts info31
  exact ⟨by kernel_rfl, ⟨i, _, hi, hz0, hz1, hz2, rfl⟩, by decide, by decide⟩
theorem Rd.hd {w : World} {a : Option Addr} {n cap : Nat} {l : List Hd} (h : Rd eH w (.slice a n cap) l) {i : Nat} {x : Hd} (hi : l[i]? = some x) :
    ∃ b off, a = some ⟨b, off, none⟩ ∧ b < w.heap.size ∧ w.cell? ⟨b, off + i, none⟩ = some (.slice x.1 x.2.1 x.2.2) := by
  obtain ⟨b, off, e, hb, hc⟩ := h.cell hi
  refine ⟨b, off, e, hb, ?_⟩
  have h2 := hc 0 (hv x) rfl
  rw [show off + i * eH.k + 0 = off + i by simp [eH]] at h2
  exact h2
/-- v is a slice of slices that read as L -/
structure RR (w : World) (v : Value) (hs : List Hd) (L : List (List Int)) : Prop where
  rd : Rd eH w v hs
  len : hs.length = L.length
  row : ∀ (i : Nat) (x : Hd) (r : List Int), hs[i]? = some x → L[i]? = some r → Rd eI w (hv x) r
theorem RR.below {B : Nat} {w w' : World} {v : Value} {hs : List Hd} {L : List (List Int)} (h : RR w v hs L) (hb : Below B w w') (hB : w.heap.size ≤ B) : RR w' v hs L :=
  ⟨h.rd.below hb hB, h.len, fun i x r hx hr => (h.row i x r hx hr).below hb hB⟩
/-- .. that the call itself builds -/
structure RO (w0 w : World) (v : Value) (hs : List Hd) (L : List (List Int)) : Prop where
  own : Ow eH 31 w0 w v hs
  len : hs.length = L.length
  row : ∀ (i : Nat) (x : Hd) (r : List Int), hs[i]? = some x → L[i]? = some r → Rd eI w (hv x) r ∧ (r ≠ [] → ∀ b, (hv x).ownBlock = some b → v.ownBlock ≠ some b)
namespace RO
variable {w0 w w' : World} {v v' : Value} {hs : List Hd} {L : List (List Int)}
theorem start (w : World) : RO w w (.slice none 0 0) [] [] := ⟨Ow.start 31 w, rfl, fun i x r hx => by simp at hx⟩
theorem grow (h : RO w0 w v hs L) (hb : Below w.heap.size w w') : RO w0 w' v hs L :=
  ⟨h.own.grow hb, h.len, fun i x r hx hr => ⟨(h.row i x r hx hr).1.keep hb, (h.row i x r hx hr).2⟩⟩
theorem down {w1 : World} (h : RO w1 w v hs L) (hb : Below w0.heap.size w0 w1) : RO w0 w v hs L := ⟨h.own.down hb, h.len, h.row⟩
theorem rr (h : RO w0 w v hs L) (hl : L.length ≤ 1000000) : RR w v hs L := ⟨h.own.rd (by rw [h.len]; exact hl), h.len, fun i x r hx hr => (h.row i x r hx hr).1⟩
theorem val (h : RO w0 w v hs L) : ∃ a cap, v = .slice a L.length cap := by
  obtain ⟨a, cap, e⟩ := h.own.val
  exact ⟨a, cap, by rw [e, h.len]⟩
theorem block_lt {x : Hd} {r : List Int} (h : Rd eI w (hv x) r) (h0 : r ≠ []) {b : Nat} (hb : (hv x).ownBlock = some b) : b < w.heap.size := by
  obtain ⟨a, cap, e, hl, h1⟩ := h
  rcases h1 with h1 | ⟨b', off, rfl, hlt, _⟩
  · exact absurd h1 h0
  · rw [e] at hb
    simp [Value.ownBlock] at hb
    omega
/-- a new outer slice over rows that were there -/
theorem fresh (ho : Ow eH 31 w w' v hs) (hlen : hs.length = L.length) (hr : ∀ (i : Nat) (x : Hd) (r : List Int), hs[i]? = some x → L[i]? = some r → Rd eI w (hv x) r) : RO w w' v hs L :=
  ⟨ho, hlen, fun i x r hx hr' => ⟨(hr i x r hx hr').keep ho.below, fun h0 b hb hv => by
    have h1 := block_lt (hr i x r hx hr') h0 hb
    have h2 := (ho.row.lt b hv).1
    omega⟩⟩
/-- one row appended -/
theorem push (h : RO w0 w v hs L) {x : Hd} {r : List Int} (hx : Rd eI w (hv x) r) (hxv : r ≠ [] → ∀ b, (hv x).ownBlock = some b → v.ownBlock ≠ some b) (ho : Ow eH 31 w0 w' v' (hs ++ [x])) (hg : Grew w w' v v') : RO w0 w' v' (hs ++ [x]) (L ++ [r]) := by
  have keep : ∀ (y : Hd) (q : List Int), Rd eI w (hv y) q → (q ≠ [] → ∀ b, (hv y).ownBlock = some b → v.ownBlock ≠ some b) → Rd eI w' (hv y) q ∧ (q ≠ [] → ∀ b, (hv y).ownBlock = some b → v'.ownBlock ≠ some b) := by
    intro y q hy hyv
    by_cases h0 : q = []
    · subst h0
      obtain ⟨a, cap, e, hl, h1⟩ := hy
      exact ⟨⟨a, cap, e, hl, .inl rfl⟩, fun h => absurd rfl h⟩
    · refine ⟨?_, fun _ b hb hv' => ?_⟩
      · obtain ⟨a, cap, e, hl, h1⟩ := hy
        refine ⟨a, cap, e, hl, ?_⟩
        rcases h1 with h1 | ⟨b, off, rfl, hlt, hc⟩
        · exact absurd h1 h0
        · refine .inr ⟨b, off, rfl, Nat.lt_of_lt_of_le hlt hg.by_.size, fun j u hu => ?_⟩
          have hne := hyv h0 b (by rw [e]; rfl)
          exact hg.by_.cell (hc j u hu) (fun q => hne q.symm)
      · have hlt := block_lt hy h0 hb
        rcases hg.at_ with q | q
        · exact hyv h0 b hb (q.symm.trans hv')
        · rw [q] at hv'
          cases hv'
          omega
  refine ⟨ho, by simp [h.len], fun i y q hy hq => ?_⟩
  rcases Nat.lt_trichotomy i hs.length with hi | hi | hi
  · rw [List.getElem?_append_left hi] at hy
    rw [List.getElem?_append_left (by rw [← h.len]; exact hi)] at hq
    exact keep y q (h.row i y q hy hq).1 (h.row i y q hy hq).2
  · subst hi
    simp at hy
    rw [h.len] at hq
    simp at hq
    subst hy hq
    exact keep _ _ hx hxv
  · rw [List.getElem?_eq_none (by simp; omega)] at hy
    cases hy
end RO

/-- takeWhile and dropWhile at the place where the test first fails -/
theorem while_at {α : Type} (p : α → Bool) (D : List α) (k : Nat) (h1 : ∀ (j : Nat) x, j < k → D[j]? = some x → p x = true) (h2 : ∀ x, D[k]? = some x → p x = false) : D.takeWhile p = D.take k ∧ D.dropWhile p = D.drop k := by
  induction D generalizing k with
  | nil => simp
  | cons y D ih =>
    cases k with
    | zero =>
      have := h2 y rfl
      simp [this]
    | succ k =>
      have h0 := h1 0 y (by omega) rfl
      obtain ⟨e1, e2⟩ := ih k (fun j x hj hx => h1 (j + 1) x (by omega) (by simpa using hx)) (fun x hx => h2 x (by simpa using hx))
      simp [h0, e1, e2]
/-- a set into a list in order -/
def insS (l : List (List Int)) (x : List Int) : List (List Int) := l.takeWhile (fun y => lessL y x) ++ x :: l.dropWhile (fun y => lessL y x)
theorem insS_at {D : List (List Int)} {x : List Int} {k : Nat} (h1 : ∀ (j : Nat) y, j < k → D[j]? = some y → lessL y x = true) (h2 : ∀ y, D[k]? = some y → lessL y x = false) : insS D x = D.take k ++ [x] ++ D.drop k := by
  obtain ⟨e1, e2⟩ := while_at (fun y => lessL y x) D k h1 h2
  unfold insS
  rw [e1, e2]
  simp
theorem insS_len (D : List (List Int)) (x : List Int) : (insS D x).length = D.length + 1 := by
  unfold insS
  rw [List.length_append, List.length_cons]
  have := congrArg List.length (List.takeWhile_append_dropWhile (p := fun y => lessL y x) (l := D))
  rw [List.length_append] at this
  omega
/-- is the loss of just these drives fatal -/
def cutB (k st : Int) (l : List Cp) (set : List Int) : Bool := !survF k st l set && minB k st l set
/-- the cuts among the first masks, in order -/
def cutsR (k st : Int) (l : List Cp) (d : List Int) : Nat → List (List Int)
  | 0 => []
  | n + 1 => if cutB k st l (chL d n) then insS (cutsR k st l d n) (chL d n) else cutsR k st l d n
theorem cutsR_len (k st : Int) (l : List Cp) (d : List Int) : ∀ n, (cutsR k st l d n).length ≤ n
  | 0 => Nat.le_refl _
  | n + 1 => by
    have := cutsR_len k st l d n
    unfold cutsR
    split
    · rw [insS_len]; omega
    · omega
/-- what Cuts returns -/
def cutsF (k st : Int) (l : List Cp) : List (List Int) × Int := if validB k st then (if 10 < (drvL l).length then ([], 111) else (cutsR k st l (drvL l) (2 ^ (drvL l).length), 0)) else ([], 5)
theorem cutsF_len (k st : Int) (l : List Cp) : (cutsF k st l).1.length ≤ 1024 := by
  unfold cutsF
  split
  · split
    · simp
    · rename_i h
      have h1 := cutsR_len k st l (drvL l) (2 ^ (drvL l).length)
      have h2 : 2 ^ (drvL l).length ≤ 2 ^ 10 := Nat.pow_le_pow_right (by decide) (by omega)
      exact Nat.le_trans h1 h2
  · simp
end Go.Proofs.Ythljjllcdocfiaa
