/- The walk of Made, with rows of numbers built by append. -/
import Derived.Test.YtkjamafpohnflaaAw
import Derived.Test.YtkjamafpohnflaaAp
import Derived.Test.YtkjamafpohnflaaSq
set_option linter.unusedVariables false
set_option linter.unusedSimpArgs false
set_option linter.unnecessarySimpa false
namespace Go.Proofs.Ytkjamafpohnflaa
open Go Go.RowKit Go.Mem

theorem info3 : (Try.prog.info? 3).map (fun i => (i.zero, i.size, i.bytes)) = some (some (.int .i64 0), 1, 8) := by kernel_rfl
theorem elt22 : Elt 22 3 1 8 := by
  obtain ⟨i, hi, hz0, hz1, hz2⟩ := info_parts info3
  exact ⟨by kernel_rfl, ⟨i, _, hi, hz0, hz1, hz2, rfl⟩, by decide, by decide⟩
/-- a slice of numbers that the call itself builds -/
def Own (w0 w : World) (v : Value) (l : List Int) : Prop := AS w0 3 1 v l.length (ints l) [] w
theorem Own.start (w : World) : Own w w (.slice none 0 0) [] := AS.start w 3 1
theorem Own.grow {w0 w w' : World} {v : Value} {l : List Int} (h : Own w0 w v l) (hb : Below w.heap.size w w') : Own w0 w' v l := AS.grow h hb
theorem Own.at {w0 w : World} {v : Value} {l : List Int} (h : Own w0 w v l) (hl : l.length ≤ 100000) : IntsAt w v l := ints_of_owns h.row (by omega)
theorem Own.new (w0 w : World) (hb : Below w0.heap.size w0 w) (l : List Int) (hl : l.length ≤ 10000) : Own w0 (w.alloc (.cells (ints l).toArray 3)) (.slice (some ⟨w.heap.size, 0, none⟩) l.length l.length) l := by
  refine ⟨hb.alloc hb.size _, ⟨by rw [len_ints]; omega, .inr ⟨w.heap.size, l.length, (ints l).toArray, rfl, hb.size, by show (w.heap.push _)[w.heap.size]? = _; simp, Nat.le_refl _, by unfold maxLen; omega, by simp [len_ints], ?_⟩⟩, fun t ht => by cases ht⟩
  show (ints l).take (l.length * 1) = ints l
  rw [Nat.mul_one, ← len_ints, List.take_length]

theorem wpList_push {w0 W : World} {ops : Array Oper} {rest : List Oper} {o : Oper} {a : Act} {Q : Exit → Act → World → Prop} {v : Value} {l : List Int} {z : Int} {b : Nat} (s x : Operand) (hg : o.guard = none)
    (ho : o.op = .call { callee := .builtin .append, args := #[s, x], argTypes := #[22, 22] }) (hs : a.eval s = v) (hx : a.eval x = .slice (some ⟨b, 0, none⟩) 1 1) (h : Own w0 W v l) (hc : W.cell? ⟨b, 0, none⟩ = some (.int .i64 z)) (hb : b < W.heap.size) (hn : l.length < 9999)
    (hK : ∀ p cap w', Hid (Own w0 w' (.slice p (l.length + 1) cap) (l ++ [z])) → wpList Try.prog ops Q rest (a.put o.dst (.slice p (l.length + 1) cap)) w') : wpList Try.prog ops Q (o :: rest) a W := by
  refine wpList_app elt22 s x hg ho hs hx h (m := 1) (ys := [.int .i64 z]) ⟨rfl, by simp [Value.oneCell'], some ⟨b, 0, none⟩, 1, rfl, .inr ⟨b, 0, rfl, hb, fun j u hu => ?_⟩⟩ (by omega) fun u w' hu => ?_
  · cases j with
    | zero => simp at hu; subst hu; simpa using hc
    | succ j => simp at hu
  · have h2 : Own w0 w' u (l ++ [z]) := by
      have := hu.out
      unfold Own
      rw [List.length_append]
      have e : ints (l ++ [z]) = ints l ++ [.int .i64 z] := by simp [ints]
      rw [e]
      exact this
    obtain ⟨p, cap, rfl⟩ := owns_val h2.row
    have e : (l ++ [z]).length = l.length + 1 := by simp
    rw [e] at h2 ⊢
    exact hK p cap w' h2

/-- the tree that Made makes of the first k numbers -/
def madeN (f : Nat → Int) : Nat → List Int
  | 0 => [-1]
  | k + 1 => madeN f k ++ [f k % ((k : Int) + 1)]
theorem len_made (f : Nat → Int) : ∀ k, (madeN f k).length = k + 1
  | 0 => rfl
  | k + 1 => by unfold madeN; rw [List.length_append, len_made f k]; rfl
theorem made_get (f : Nat → Int) : ∀ k i, i < k → (madeN f k).getD (i + 1) 0 = f i % ((i : Int) + 1)
  | k + 1, i, h => by
    unfold madeN
    by_cases e : i = k
    · subst e
      rw [List.getD_eq_getElem?_getD, List.getElem?_append_right (by rw [len_made]; omega), len_made, Nat.sub_self]
      rfl
    · have := made_get f k i (by omega)
      rw [List.getD_eq_getElem?_getD, List.getElem?_append_left (by rw [len_made]; omega), ← List.getD_eq_getElem?_getD]
      exact this
theorem made_zero (f : Nat → Int) : ∀ k, (madeN f k).getD 0 0 = -1
  | 0 => rfl
  | k + 1 => by
    unfold madeN
    rw [List.getD_eq_getElem?_getD, List.getElem?_append_left (by rw [len_made]; omega), ← List.getD_eq_getElem?_getD]
    exact made_zero f k
theorem made_ok (f : Nat → Int) {k : Nat} (h : k ≤ 63) : Tree.Ok (madeN f k) := by
  refine ⟨by rw [len_made]; omega, by rw [len_made]; omega, made_zero f k, fun i h1 h2 => ?_⟩
  obtain ⟨j, rfl⟩ : ∃ j, i = j + 1 := ⟨i - 1, by omega⟩
  rw [len_made] at h2
  rw [made_get f k j (by omega)]
  have h3 := Int.emod_nonneg (f j) (b := (j : Int) + 1) (by omega)
  have h4 := Int.emod_lt_of_pos (f j) (b := (j : Int) + 1) (by omega)
  omega

/-- what Made returns -/
def MadeIs (w : World) (L : List Int) (k : Nat) (e : Ending) (w' : World) : Prop := ∃ p cap, e = .returned (.slice p (k + 1) cap) ∧ IntsAt w' (.slice p (k + 1) cap) L ∧ Below w.heap.size w w'


def MadeOwn (w : World) (L : List Int) (k : Nat) (e : Ending) (w' : World) : Prop := ∃ p cap, e = .returned (.slice p (k + 1) cap) ∧ Own w w' (.slice p (k + 1) cap) L
set_option maxHeartbeats 2000000 in
theorem made_own (v : Value) (l : List Int) (w : World) (h : IntsAt w v l) (h64 : ∀ x ∈ l, In64 x) : Calls Try.prog 9 #[v] w (MadeOwn w (madeN (fun i => l.getD i 0) (min l.length 39)) (min l.length 39)) := by
  obtain ⟨a, cap, rfl, hlen⟩ := h.open
  obtain ⟨N, hN⟩ : ∃ N, min l.length 39 = N := ⟨_, rfl⟩
  rw [hN]
  have H := Lib.hid h
  have HV := Lib.hid (show ∀ i, i < l.length → In64 (l.getD i 0) from fun i hi => h64 _ (getD_mem hi))
  have HF := Lib.hid (Own.new w w (Below.refl _ _) [-1] (by decide))
  obtain ⟨n, hn⟩ : ∃ n, l.length = n := ⟨_, rfl⟩
  have HN := Lib.hid hn
  rw [hn] at hlen hN ⊢
  clear h h64 hn
  obtain ⟨f, hf⟩ : ∃ f : Nat → Int, (fun i => l.getD i 0) = f := ⟨_, rfl⟩
  rw [hf]
  have HFF := Lib.hid (fun i => show l.getD i 0 = f i from congrFun hf i)
  clear hf
  go_enter Try.func9, Try.ntmps9
  go_wp2_with fail
  go_loopw [3, 4] (fun s i wr => ∃ (k : Nat) (p : Option Addr) (c : Nat), s = .slice p (k + 1) c ∧ i = .int .i64 k ∧ k ≤ N ∧ Hid (Own w wr (.slice p (k + 1) c) (madeN f k))) (fun _ i _ => N - (intOf i).toNat)
  case atStart => exact ⟨0, _, _, rfl, rfl, by omega, HF.out⟩
  case round =>
    rename World => wr
    obtain ⟨k, p, c, rfl, rfl, hk, HO⟩ := hrel
    by_cases hkN : k < N
    · have hkn : k < n := by omega
      have hk39 : k < 39 := by omega
      have q1 : decide ((k : Int) < 39) = true := by simp; omega
      obtain ⟨b, off, rfl, hb, ck⟩ := (H.out.below HO.out.below (Nat.le_refl _)).cell (i := k) (by rw [HN.out]; exact hkn)
      obtain ⟨z, hz⟩ : ∃ z, f k = z := ⟨_, rfl⟩
      rw [HFF.out, hz] at ck
      have HZ := Lib.hid hz
      have hi := HV.out k (by rw [HN.out]; exact hkn)
      rw [HFF.out, hz] at hi
      obtain ⟨y, hy⟩ : ∃ y, z % ((k : Int) + 1) = y := ⟨_, rfl⟩
      have K := fun w => Lib.hid (show Calls Try.prog 10 #[.int .i64 z, .int .i64 ((k : Int) + 1)] w fun e w' => e = .returned (.int .i64 y) ∧ w = w' from hy ▸ within_any z ((k : Int) + 1) w (by omega) (by omega) hi.1 hi.2)
      have HY := Lib.hid hy
      have HC := Lib.hid (show (wr.alloc (.cells #[.int .i64 y] 3)).cell? ⟨wr.heap.size, 0, none⟩ = some (.int .i64 y) by simp)
      have HL := Lib.hid (len_made f k)
      clear hz hi hy hN
      go_wp2_with (first
        | (go_at_call 10; (with_reducible refine (K _).out.mono ?_); rintro e w1 ⟨rfl, rfl⟩)
        | (at_builtin; refine wpList_push (l := madeN f k) (z := y) _ _ rfl rfl rfl rfl (HO.out.grow (below_alloc wr (.cells #[.int .i64 y] 3))) (by simp) (by simp) (by rw [HL.out]; omega) ?_; intro p2 c2 w2 HO2; rw [HL.out] at HO2; rw [HL.out]))
      go_roundw
      case rel => exact ⟨k + 1, p2, c2, by go_num, by go_num, by omega, by show Hid (Own _ _ _ (madeN f k ++ [f k % ((k : Int) + 1)])); rw [HZ.out, HY.out]; exact HO2⟩
      case measure => simp [intOf]; omega
    · obtain rfl : k = N := by omega
      have hq : n ≤ k ∨ 39 ≤ k := by omega
      rcases hq with hq | hq
      · go_wp2_with fail
        go_ret
        exact ⟨p, c, rfl, HO.out⟩
      · by_cases hq2 : n ≤ k
        · go_wp2_with fail
          go_ret
          exact ⟨p, c, rfl, HO.out⟩
        · have q1 : decide ((k : Int) < 39) = false := by simp; omega
          go_wp2_with fail
          go_ret
          exact ⟨p, c, rfl, HO.out⟩
theorem made_any (v : Value) (l : List Int) (w : World) (h : IntsAt w v l) (h64 : ∀ x ∈ l, In64 x) : Calls Try.prog 9 #[v] w (MadeIs w (madeN (fun i => l.getD i 0) (min l.length 39)) (min l.length 39)) :=
  (made_own v l w h h64).mono fun e w' ⟨p, c, he, ho⟩ => ⟨p, c, he, ho.at (by rw [len_made]; omega), ho.below⟩
end Go.Proofs.Ytkjamafpohnflaa
