/- A drawn region: operations that lay their results wherever the draw puts them, in any order that it allows, taken at once. -/
import Derived.Test.YtgnmolleaengaaaGreatLy
set_option linter.unusedVariables false
set_option linter.unusedSimpArgs false
set_option linter.unnecessarySimpa false
namespace Go.Proofs.YtgnmolleaengaaaGreat
open Go Go.RowKit

section
variable {P : Program} {ops : Array Oper} {md : Region.Mode} {S : World → Prop}

theorem sUpon_imp {V V' : Value → World → Prop} (h : ∀ u w, V u w → V' u w) {r : Result Next} (hr : sUpon P V r) : sUpon P V' r := by
  cases r with
  | ok n w' =>
    cases n <;> simp only [sUpon] at hr ⊢
    case value u => exact h _ _ hr
    case skip => exact h _ _ hr
    case enter f args => exact hr.mono fun e w'' ⟨u, he, hv⟩ => ⟨u, he, h _ _ hv⟩
  | halt x w' => simp only [sUpon] at hr

/-- an operation that yields some value with W, and owns what is new -/
structure Semi (P : Program) (ops : Array Oper) (S : World → Prop) (own : Value → Option Nat) (W : Nat → Value → World → Prop) (i : Nat) (a : Act) : Prop where
  stable : ∀ u, Stable (W i u)
  run : ∃ o, ops[i]? = some o ∧ o.guard = none ∧ ∀ w, S w → sUpon P (fun u w' => W i u w' ∧ Below w.heap.size w w' ∧ ∀ k, own u = some k → w.heap.size ≤ k ∧ k < w'.heap.size) ((execOp a.eval o).run P w)

/-- what has been done -/
structure Dn (T : World → Prop) (own : Value → Option Nat) (W : Nat → Value → World → Prop) (E : List Nat) (us : Nat → Value) (w : World) : Prop where
  base : T w
  all : ∀ i ∈ E, W i (us i) w
  lt : ∀ i ∈ E, ∀ k, own (us i) = some k → k < w.heap.size
  ne : ∀ i ∈ E, ∀ j ∈ E, i ≠ j → ∀ k, own (us i) = some k → own (us j) ≠ some k
theorem Dn.same {T : World → Prop} {own : Value → Option Nat} {W : Nat → Value → World → Prop} {E E' : List Nat} (us : Nat → Value) (h : ∀ i, i ∈ E ↔ i ∈ E') : Dn T own W E us = Dn T own W E' us := by
  funext w
  refine propext ⟨fun ⟨h1, h2, h3, h4⟩ => ⟨h1, fun i hi => h2 i ((h i).2 hi), fun i hi => h3 i ((h i).2 hi), fun i hi j hj => h4 i ((h i).2 hi) j ((h j).2 hj)⟩, fun ⟨h1, h2, h3, h4⟩ => ⟨h1, fun i hi => h2 i ((h i).1 hi), fun i hi => h3 i ((h i).1 hi), fun i hi j hj => h4 i ((h i).1 hi) j ((h j).1 hj)⟩⟩
theorem Dn.congr {T : World → Prop} {own : Value → Option Nat} {W : Nat → Value → World → Prop} {E : List Nat} {us us' : Nat → Value} (h : ∀ i ∈ E, us' i = us i) : Dn T own W E us = Dn T own W E us' := by
  funext w
  refine propext ⟨fun ⟨h1, h2, h3, h4⟩ => ⟨h1, fun i hi => by rw [h i hi]; exact h2 i hi, fun i hi => by rw [h i hi]; exact h3 i hi, fun i hi j hj => by rw [h i hi, h j hj]; exact h4 i hi j hj⟩, fun ⟨h1, h2, h3, h4⟩ => ⟨h1, fun i hi => by rw [← h i hi]; exact h2 i hi, fun i hi => by rw [← h i hi]; exact h3 i hi, fun i hi j hj => by rw [← h i hi, ← h j hj]; exact h4 i hi j hj⟩⟩

def dstOf (ops : Array Oper) (i : Nat) : Option Tmp := (ops[i]?).bind (·.dst)
def putAll (ops : Array Oper) (us : Nat → Value) : List Nat → Act → Act
  | [], a => a
  | i :: D, a => putAll ops us D (a.put (dstOf ops i) (us i))
def Apart (ops : Array Oper) (i j : Nat) : Prop := ∃ x y, ops[i]? = some x ∧ ops[j]? = some y ∧ x.apart ops y = true
theorem putAll_erase {us : Nat → Value} {i : Nat} : ∀ {D : List Nat} {a : Act}, D.Nodup → i ∈ D → (∀ x ∈ D, ∀ y ∈ D, x ≠ y → Apart ops x y) → putAll ops us D a = putAll ops us (D.erase i) (a.put (dstOf ops i) (us i))
  | j :: D, a, hn, hi, hA => by
    by_cases e : j = i
    · subst e
      rw [List.erase_cons_head, putAll]
    · have hi' : i ∈ D := by
        rcases List.mem_cons.1 hi with h | h
        · exact absurd h.symm e
        · exact h
      rw [List.erase_cons_tail (by simpa using e), putAll, putAll, putAll_erase (List.nodup_cons.1 hn).2 hi' fun x hx y hy => hA x (List.mem_cons_of_mem _ hx) y (List.mem_cons_of_mem _ hy)]
      obtain ⟨x, y, hx, hy, hap⟩ := hA j (by simp) i hi e
      have hc := (Oper.apart_spec hap).2.1
      rw [Act.put_comm a (us j) (us i) (x := dstOf ops j) (y := dstOf ops i) (by simpa [dstOf, hx, hy] using hc)]
theorem setMany_erase {i : Nat} : ∀ {D : List Nat} {listed : Array Bool}, i ∈ D → setMany listed D = setMany (listed.setIfInBounds i true) (D.erase i)
  | j :: D, listed, hi => by
    by_cases e : j = i
    · subst e
      rw [List.erase_cons_head, setMany]
    · have hi' : i ∈ D := by
        rcases List.mem_cons.1 hi with h | h
        · exact absurd h.symm e
        · exact h
      rw [List.erase_cons_tail (by simpa using e), setMany, setMany, setMany_erase hi', Array.setIfInBounds_comm _ _ e]

/-- the orders that the draw allows stay within D -/
def semiB (md : Region.Mode) (ops : Array Oper) (n : Nat) : Nat → List Nat → Array Bool → Bool
  | 0, D, _ => D.isEmpty
  | f + 1, D, listed => !(Region.ready md ops listed).isEmpty && (Region.ready md ops listed).all fun i => D.contains i && decide (i < n) && semiB md ops n f (D.erase i) (listed.setIfInBounds i true)

theorem lAnyL_semi {n : Nat} {L : Array Bool → (World → Prop) → Act → Prop} {T : World → Prop} (own : Value → Option Nat) (W : Nat → Value → World → Prop) (hsel : Region.noSelect ops = true) (hT : Stable T) (hTS : ∀ w, T w → S w) :
    ∀ (f : Nat) (D E : List Nat) (us : Nat → Value) (listed : Array Bool) (a : Act), f = D.length → D.Nodup → (∀ x ∈ D, ∀ y ∈ D, x ≠ y → Apart ops x y) → (∀ i ∈ D, i ∉ E) → semiB md ops n f D listed = true → (∀ i ∈ D, Semi P ops S own W i a) → (∀ i ∈ E, ∀ u, Stable (W i u)) →
    (∀ us', (∀ i ∈ E, us' i = us i) → (∃ w, Dn T own W (E ++ D) us' w) → L (setMany listed D) (Dn T own W (E ++ D) us') (putAll ops us' D a)) → (∃ w, Dn T own W E us w) → lAnyL P md ops S n L f listed (Dn T own W E us) a
  | 0, D, E, us, listed, a, hf, _, _, _, _, _, _, hL, hx => by
    have : D = [] := List.eq_nil_of_length_eq_zero hf.symm
    subst this
    rw [List.append_nil] at hL
    exact hL us (fun _ _ => rfl) hx
  | f + 1, D, E, us, listed, a, hf, hn, hA, hDE, hB, hS, hE, hL, hx => by
    rw [semiB, Bool.and_eq_true] at hB
    obtain ⟨hne, hall⟩ := hB
    refine ⟨fun h0 => by rw [h0] at hne; simp at hne, fun i hi => ?_⟩
    have h1 := List.all_eq_true.1 hall i hi
    rw [Bool.and_eq_true, Bool.and_eq_true] at h1
    obtain ⟨⟨hiD, hin⟩, hB'⟩ := h1
    have hiD : i ∈ D := by simpa using hiD
    refine ⟨by simpa using hin, ?_⟩
    obtain ⟨hst, o, ho, hg, hrun⟩ := hS i hiD
    have hdst : dstOf ops i = o.dst := by simp [dstOf, ho]
    let up : Value → Nat → Value := fun u j => if j = i then u else us j
    have hup : ∀ u, ∀ j ∈ E, up u j = us j := fun u j hj => if_neg (fun e : j = i => hDE i hiD (e ▸ hj))
    have hupi : ∀ u, up u i = u := fun u => if_pos rfl
    have hEi : ∀ j ∈ i :: E, ∀ u, Stable (W j u) := fun j hj => by
      rcases List.mem_cons.1 hj with rfl | hj
      · exact hst
      · exact hE j hj
    have hDnS : ∀ u, Stable (Dn T own W (i :: E) (up u)) := fun u w w' h hb =>
      ⟨hT _ _ h.base hb, fun j hj => hEi j hj _ _ _ (h.all j hj) hb, fun j hj k hk => Nat.lt_of_lt_of_le (h.lt j hj k hk) hb.size, h.ne⟩
    refine lOp_special' ho (fun u => Dn T own W (i :: E) (up u)) hg hDnS (fun u w h => hTS w h.base) ?_ ?_
    · intro w hw
      refine sUpon_imp ?_ (hrun w (hTS w hw.base))
      rintro u w' ⟨hW, hb, hown⟩
      refine ⟨hT _ _ hw.base hb, fun j hj => ?_, fun j hj k hk => ?_, ?_⟩
      · rcases List.mem_cons.1 hj with rfl | hj
        · rw [hupi]; exact hW
        · rw [hup u j hj]; exact hE j hj _ _ _ (hw.all j hj) hb
      · rcases List.mem_cons.1 hj with rfl | hj
        · rw [hupi] at hk; exact (hown k hk).2
        · rw [hup u j hj] at hk; exact Nat.lt_of_lt_of_le (hw.lt j hj k hk) hb.size
      · intro x hx y hy hxy k hk hk2
        rcases List.mem_cons.1 hx with e1 | hx1 <;> rcases List.mem_cons.1 hy with e2 | hy1
        · exact hxy (e1.trans e2.symm)
        · rw [e1, hupi] at hk
          rw [hup u y hy1] at hk2
          have := (hown k hk).1
          have := hw.lt y hy1 k hk2
          omega
        · rw [e2, hupi] at hk2
          rw [hup u x hx1] at hk
          have := (hown k hk2).1
          have := hw.lt x hx1 k hk
          omega
        · rw [hup u x hx1] at hk
          rw [hup u y hy1] at hk2
          exact hw.ne x hx1 y hy1 hxy k hk hk2
    · intro u hu
      have hmem : ∀ j, j ∈ D.erase i ↔ j ≠ i ∧ j ∈ D := fun j => hn.mem_erase_iff
      refine lAnyL_semi own W hsel hT hTS f (D.erase i) (i :: E) (up u) _ _ (by rw [List.length_erase_of_mem hiD]; omega) (hn.erase i) (fun x hx y hy => hA x ((hmem x).1 hx).2 y ((hmem y).1 hy).2) (fun j hj hjE => ?_) hB' (fun j hj => ?_) hEi ?_ hu
      · rcases List.mem_cons.1 hjE with rfl | hjE
        · exact ((hmem j).1 hj).1 rfl
        · exact hDE j ((hmem j).1 hj).2 hjE
      · obtain ⟨hji, hjD⟩ := (hmem j).1 hj
        obtain ⟨hst2, o2, ho2, hg2, hrun2⟩ := hS j hjD
        refine ⟨hst2, o2, ho2, hg2, fun w hw => ?_⟩
        obtain ⟨x, y, hx1, hy1, hap⟩ := hA i hiD j hjD (Ne.symm hji)
        rw [ho] at hx1
        rw [ho2] at hy1
        cases hx1
        cases hy1
        have hsp := Oper.apart_spec hap
        have e := execOp_put (ops := ops) o2 (fun cs b => Region.noSelect_spec hsel j o2 cs b ho2) a o.dst u hsp.1
        rw [e]
        exact hrun2 w hw
      · intro us' hus' hx'
        have hmm : ∀ j, j ∈ i :: E ++ D.erase i ↔ j ∈ E ++ D := fun j => by
          simp only [List.mem_append, List.mem_cons, hmem]
          constructor
          · rintro ((rfl | h) | h)
            · exact .inr hiD
            · exact .inl h
            · exact .inr h.2
          · rintro (h | h)
            · exact .inl (.inr h)
            · by_cases e : j = i
              · exact .inl (.inl e)
              · exact .inr ⟨e, h⟩
        have hui : us' i = u := by rw [hus' i (by simp), hupi]
        rw [Dn.same us' hmm] at hx' ⊢
        have := hL us' (fun j hj => by rw [hus' j (List.mem_cons_of_mem _ hj), hup u j hj]) hx'
        rw [setMany_erase hiD, putAll_erase hn hiD hA, hui, hdst] at this
        exact this

def putP (us : Nat → Value) : List (Nat × Tmp) → Act → Act
  | [], a => a
  | (i, t) :: D, a => putP us D (a.put (some t) (us i))
def dstB (ops : Array Oper) (DD : List (Nat × Tmp)) : Bool := DD.all fun x => decide (dstOf ops x.1 = some x.2)
def apartB (ops : Array Oper) (D : List Nat) : Bool := D.all fun x => D.all fun y => x == y || (match ops[x]?, ops[y]? with | some a, some b => a.apart ops b | _, _ => false)
theorem putP_eq {us : Nat → Value} : ∀ {DD : List (Nat × Tmp)} {a : Act}, dstB ops DD = true → putAll ops us (DD.map Prod.fst) a = putP us DD a
  | [], _, _ => rfl
  | (i, t) :: D, a, h => by
    simp only [dstB, List.all_cons, Bool.and_eq_true, decide_eq_true_eq] at h
    rw [List.map_cons, putAll, putP, h.1]
    exact putP_eq h.2
theorem apart_of {D : List Nat} (h : apartB ops D = true) : ∀ x ∈ D, ∀ y ∈ D, x ≠ y → Apart ops x y := fun x hx y hy hne => by
  have h1 := List.all_eq_true.1 (List.all_eq_true.1 h x hx) y hy
  rw [Bool.or_eq_true] at h1
  rcases h1 with h1 | h1
  · exact absurd (by simpa using h1) hne
  · split at h1
    · rename_i a b ha hb
      exact ⟨a, b, ha, hb, h1⟩
    · cases h1

theorem pRow_imp {Q Q' : Act → Prop} (h : ∀ a, Q a → Q' a) : ∀ {is : List Nat} {a : Act}, pRow P ops S Q is a → pRow P ops S Q' is a
  | [], _, hh => h _ hh
  | _ :: _, _, ⟨o, h0, v, hy, hh⟩ => ⟨o, h0, v, hy, pRow_imp h hh⟩
theorem wp_region_semi_tail {id : Nat} {Q : Exit → Act → World → Prop} {a : Act} {w : World} {l : List Oper} (S T : World → Prop) (is : List Nat) (DD : List (Nat × Tmp)) (m : Nat) (own : Value → Option Nat) (W : Nat → Value → World → Prop) (hm : P.follows .mixedOrders = true)
    (hB : pickB l.toArray is DD.length m = true) (hB2 : semiB .any l.toArray m DD.length (DD.map Prod.fst) (setMany (Array.replicate l.toArray.size false) is) = true) (hB3 : (decide (DD.map Prod.fst).Nodup && dstB l.toArray DD && apartB l.toArray (DD.map Prod.fst) && Region.seqB .any l.toArray (l.toArray.size - m) m (setMany (setMany (Array.replicate l.toArray.size false) is) (DD.map Prod.fst))) = true)
    (hSt : Stable T) (hTS : ∀ w, T w → S w) (hS : T w)
    (h : pRow P l.toArray S (fun a' => (∀ i ∈ DD.map Prod.fst, Semi P l.toArray S own W i a') ∧ ∀ us, (∃ w, Dn T own W (DD.map Prod.fst) us w) → ∀ w, Dn T own W (DD.map Prod.fst) us w → wpList P l.toArray Q (l.drop m) (putP us DD a') w) is a) : (Code.region id l.toArray true).wp P Q a w := by
  simp only [Bool.and_eq_true, decide_eq_true_eq] at hB3
  obtain ⟨⟨⟨hn, hd⟩, hap⟩, hseq⟩ := hB3
  have hsel : Region.noSelect l.toArray = true := by
    have := hB
    simp only [pickB, Bool.and_eq_true] at this
    exact this.1.1.1.1.1
  have h0 : Dn T own W [] (fun _ => undef) = T := by
    funext w
    exact propext ⟨fun h => h.base, fun h => ⟨h, (by simp), (by simp), (by simp)⟩⟩
  refine wp_region_pick_tail S T is DD.length m hm hB hSt hTS hS ?_
  refine pRow_imp ?_ h
  rintro a' ⟨hs, hk⟩
  have := lAnyL_semi (P := P) (ops := l.toArray) (md := .any) (S := S) (n := m) (L := TailAt P .any l.toArray (l.toArray.size - m) m (fun a w => wpList P l.toArray Q (l.drop m) a w)) (T := T) own W hsel hSt hTS DD.length (DD.map Prod.fst) [] (fun _ => undef) _ a' (by simp) hn (apart_of hap) (by simp) hB2 hs (by simp) (fun us' _ hx => ⟨hseq, fun w' hw' => by
    rw [List.nil_append] at hx hw'
    rw [putP_eq hd]
    exact hk us' hx w' hw'⟩)
  rw [h0] at this
  exact this ⟨_, hS⟩
end
end Go.Proofs.YtgnmolleaengaaaGreat
