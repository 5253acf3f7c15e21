/- The walks of Within and Job. -/
import Derived.Test.YtgnmolleaengaaaGreatNk
set_option linter.unusedVariables false
set_option linter.unusedSimpArgs false
set_option linter.unnecessarySimpa false
namespace Go.Proofs.YtgnmolleaengaaaGreat
open Go Go.RowKit

theorem tmod_emod (x n : Int) (h : 1 ≤ n) : (if x.tmod n < 0 then x.tmod n + n else x.tmod n) = x % n := by
  have h0 : 0 ≤ x % n := Int.emod_nonneg _ (by omega)
  have h1 : x % n < n := Int.emod_lt_of_pos _ (by omega)
  rcases Int.lt_or_le x 0 with hx | hx
  · have e : x.tmod n = -((-x) % n) := by
      have := Int.neg_tmod (-x) n
      rw [Int.neg_neg] at this
      rw [this, Int.tmod_eq_emod_of_nonneg (by omega)]
    rw [e]
    have g0 : 0 ≤ (-x) % n := Int.emod_nonneg _ (by omega)
    have g1 : (-x) % n < n := Int.emod_lt_of_pos _ (by omega)
    have key : x % n = if (-x) % n = 0 then 0 else n - (-x) % n := by
      have hx1 : x = n * (-((-x) / n)) + -((-x) % n) := by
        have := Int.mul_ediv_add_emod (-x) n
        rw [Int.mul_neg]; omega
      split
      · rename_i h0
        rw [h0] at hx1
        rw [hx1, Int.neg_zero, Int.add_zero]; exact Int.mul_emod_right _ _
      · rename_i hne
        have hx2 : x = (n - (-x) % n) + n * (-((-x) / n) - 1) := by rw [Int.mul_sub]; omega
        rw [hx2, Int.add_mul_emod_self_left]
        have : (-(n - -x % n + n * (-(-x / n) - 1))) % n = (-x) % n := by rw [← hx2]
        rw [this]
        exact Int.emod_eq_of_lt (by omega) (by omega)
    rw [key]
    split
    · split <;> omega
    · split <;> omega
  · rw [Int.tmod_eq_emod_of_nonneg hx, if_neg (by omega)]

set_option maxHeartbeats 1000000 in
theorem within_any (x n : Int) (w : World) (hn : 1 ≤ n) (hn2 : n ≤ 9223372036854775807) (h1 : -9223372036854775808 ≤ x) (h2 : x ≤ 9223372036854775807) :
    Calls Tryz.prog 19 #[.int .i64 x, .int .i64 n] w fun e w' => e = .returned (.int .i64 (x % n)) ∧ w = w' := by
  have he := tmod_emod x n hn
  have hn0 : ¬ n < 1 := by omega
  by_cases hneg : x.tmod n < 0
  · rw [if_pos hneg] at he
    have hb : 0 ≤ x % n ∧ x % n < n := ⟨Int.emod_nonneg _ (by omega), Int.emod_lt_of_pos _ (by omega)⟩
    have hw : wrap64 (x.tmod n + n) = x % n := by rw [he]; exact IntWalk.wrap64_in _ (by omega)
    have HW := Lib.hid hw
    clear he hw
    go_enter Tryz.func19, Tryz.ntmps19
    go_wp2_with fail
    go_ret
    exact ⟨congrArg (fun z => Ending.returned (.int .i64 z)) HW.out, rfl⟩
  · rw [if_neg hneg] at he
    have HE := Lib.hid he
    clear he
    go_enter Tryz.func19, Tryz.ntmps19
    go_wp2_with fail
    go_ret
    exact ⟨congrArg (fun z => Ending.returned (.int .i64 z)) HE.out, rfl⟩


/-- a job: its numbers, and its risk n / d -/
structure Jb where
  vol : Int
  frag : Int
  cls : Int
  rem : Int
  n : Nat
  d : Nat
abbrev jc (j : Jb) (num den : Value) : Array Value := #[.int .i64 j.vol, .int .i64 j.frag, .int .i64 j.cls, .bool false, num, den, .int .i64 j.rem]
abbrev jv (j : Jb) (num den : Value) : Value := .agg (jc j num den)

/-- one call of the law's list -/
structure Opc where
  kind : Int
  vol : Int
  frag : Int
  cls : Int
  rem : Int
  num : Int
  den : Int
abbrev oc (o : Opc) : Array Value := #[.int .i64 o.kind, .int .i64 o.vol, .int .i64 o.frag, .int .i64 o.cls, .int .i64 o.rem, .int .i64 o.num, .int .i64 o.den]
abbrev ov (o : Opc) : Value := .agg (oc o)
def In64' (n : Int) : Prop := -9223372036854775808 ≤ n ∧ n ≤ 9223372036854775807
def OkOp (o : Opc) : Prop := In64' o.vol ∧ In64' o.frag ∧ In64' o.cls ∧ In64' o.rem ∧ In64' o.num ∧ In64' o.den
def jobN (o : Opc) : Nat := (o.num % 5).toNat
def jobD (o : Opc) : Nat := (1 + o.den % 4).toNat
def jobF (o : Opc) : Jb := ⟨o.vol % 3, o.frag % 3, 1 + o.cls % 3, o.rem % 3, jobN o / Nat.gcd (jobN o) (jobD o), jobD o / Nat.gcd (jobN o) (jobD o)⟩

/-- a job as a value -/
def JobPost (w : World) (j : Jb) (e : Ending) (w' : World) : Prop := ∃ a c a2 c2, e = .returned (jv j (.slice a (limb j.n).length c) (.slice a2 (limb j.d).length c2)) ∧ Ru w' (.slice a (limb j.n).length c) (limb j.n) ∧ Ru w' (.slice a2 (limb j.d).length c2) (limb j.d) ∧ Below w.heap.size w w'

section
variable {P : Program} {ops : Array Oper} {S T : World → Prop} {i : Nat} {o : Oper} {a : Act} {K : (World → Prop) → Act → Prop}
/-- a special operation that yields a new block -/
theorem lOp_box {T' : Nat → World → Prop} (hi : ops[i]? = some o) (hg : o.guard = none) (h1 : ∀ b, Stable (T' b)) (h2 : ∀ b w, T' b w → S w)
    (hv : ∀ w, T w → sUpon P (fun u w' => ∃ b, u = .pointer (some ⟨b, 0, none⟩) ∧ T' b w') ((execOp a.eval o).run P w)) (hk : ∀ b, K (T' b) (a.put o.dst (.pointer (some ⟨b, 0, none⟩)))) : lOp P ops S T i K a := by
  refine lOp_special' hi (fun u w' => ∃ b, u = .pointer (some ⟨b, 0, none⟩) ∧ T' b w') hg ?_ ?_ hv ?_
  · rintro u w w' ⟨b, rfl, h⟩ hb; exact ⟨b, rfl, h1 b _ _ h hb⟩
  · rintro u w ⟨b, rfl, h⟩; exact h2 b w h
  · rintro u ⟨w, b, rfl, hw⟩
    have e : (fun w' => ∃ b', Value.pointer (some ⟨b, 0, none⟩) = .pointer (some ⟨b', 0, none⟩) ∧ T' b' w') = T' b := by
      funext w
      refine propext ⟨?_, fun h => ⟨b, rfl, h⟩⟩
      rintro ⟨b', h, hw⟩
      cases h
      exact hw
    rw [e]
    exact hk b
theorem lOp_call (n : Value) {T' : World → Prop} (hi : ops[i]? = some o) (hg : o.guard = none) (h1 : Stable T') (h2 : ∀ w, T' w → S w)
    (hv : ∀ w, T w → sUpon P (fun u w' => u = n ∧ T' w') ((execOp a.eval o).run P w)) (hk : K T' (a.put o.dst n)) : lOp P ops S T i K a := by
  refine lOp_special' hi (fun u w' => u = n ∧ T' w') hg ?_ ?_ hv ?_
  · rintro u w w' ⟨rfl, h⟩ hb; exact ⟨rfl, h1 _ _ h hb⟩
  · rintro u w ⟨rfl, h⟩; exact h2 w h
  · rintro u ⟨w, rfl, hw⟩
    have e : (fun w' => u = u ∧ T' w') = T' := by funext w; exact propext ⟨fun h => h.2, fun h => ⟨rfl, h⟩⟩
    rw [e]
    exact hk
end

/-- a determined row of operations, anywhere -/
theorem lAny_pick' {P : Program} {ops : Array Oper} {md : Region.Mode} {S : World → Prop} {Q : Act → World → Prop} {T : World → Prop} {n : Nat} (g : Nat) (is : List Nat) (hn : n = is.length + g) (hsel : Region.noSelect ops = true) {listed : Array Bool} {a : Act} (hB : preA md ops is listed = true)
    (h : pRow P ops S (fun a => lAny P md ops S Q g (setMany listed is) T a) is a) : lAny P md ops S Q n listed T a := by
  subst hn
  exact lAny_pick g hsel is listed a hB h

/-- a block of its own, of type 27, since w5 -/
structure Bk (w5 : World) (bx : Nat) (c : Array Value) (w' : World) : Prop where
  below : Below w5.heap.size w5 w'
  base : w5.heap.size ≤ bx
  holds : Holds w' bx c
  ty : TyB w' bx 27
theorem Bk.grow {w5 w' w2 : World} {bx : Nat} {c : Array Value} (h : Bk w5 bx c w') (hb : Below w'.heap.size w' w2) : Bk w5 bx c w2 := ⟨h.below.trans (hb.mono h.below.size), h.base, h.holds.keep hb, h.ty.keep hb⟩
theorem Bk.new {w5 wg : World} (hg : Below w5.heap.size w5 wg) (c : Array Value) : Bk w5 wg.heap.size c (wg.alloc (.cells c 27)) := ⟨hg.alloc hg.size _, hg.size, Holds.new _ _ _, TyB.new _ _ _⟩
theorem Bk.lay3 {w5 wg : World} {bx : Nat} {c0 c1 c2 : Value} (h : Bk w5 bx #[c0, c1, c2] wg) (a0 a1 a2 : Value) :
    Bk w5 bx #[a0, a1, a2] (((wg.setCell ⟨bx, 0, none⟩ a0).setCell ⟨bx, 1, none⟩ a1).setCell ⟨bx, 2, none⟩ a2) :=
  ⟨(put3 h.holds h.below h.base a0 a1 a2).2, h.base, (put3 h.holds h.below h.base a0 a1 a2).1, ((h.ty.setCell 0 a0).setCell 1 a1).setCell 2 a2⟩

/-- Make's result stands by -/
def Mk (W : World) (n d : Nat) (u : Value) (w' : World) : Prop := (∃ a c a2 c2, u = .tuple #[fv false (.slice a (limb n).length c) (.slice a2 (limb d).length c2), .int .i64 0] ∧ Ru w' (.slice a (limb n).length c) (limb n) ∧ Ru w' (.slice a2 (limb d).length c2) (limb d)) ∧ Below W.heap.size W w'
theorem Mk.grow {W w1 w2 : World} {n d : Nat} {u : Value} (h : Mk W n d u w1) (hb : Below w1.heap.size w1 w2) : Mk W n d u w2 := by
  obtain ⟨⟨a, c, a2, c2, rfl, h1, h2⟩, h3⟩ := h
  exact ⟨⟨a, c, a2, c2, rfl, h1.keep hb, h2.keep hb⟩, h3.trans (hb.mono h3.size)⟩
/-- .. and the box -/
def MkB (W : World) (n d : Nat) (u : Value) (bx : Nat) (c : Array Value) (w' : World) : Prop := Mk W n d u w' ∧ Bk W bx c w'
theorem MkB.grow {W w1 w2 : World} {n d : Nat} {u : Value} {bx : Nat} {c : Array Value} (h : MkB W n d u bx c w1) (hb : Below w1.heap.size w1 w2) : MkB W n d u bx c w2 := ⟨h.1.grow hb, h.2.grow hb⟩
theorem MkB.lay3 {W wg : World} {n d : Nat} {u : Value} {bx : Nat} {c0 c1 c2 : Value} (h : MkB W n d u bx #[c0, c1, c2] wg) (a0 a1 a2 : Value) :
    MkB W n d u bx #[a0, a1, a2] (((wg.setCell ⟨bx, 0, none⟩ a0).setCell ⟨bx, 1, none⟩ a1).setCell ⟨bx, 2, none⟩ a2) := by
  obtain ⟨⟨⟨a, c, a2', c2', rfl, h1, h2⟩, h3⟩, h4⟩ := h
  exact ⟨⟨⟨a, c, a2', c2', rfl, h1.put3 h4.ty (by decide) _ _ _, h2.put3 h4.ty (by decide) _ _ _⟩, (h4.lay3 a0 a1 a2).below⟩, h4.lay3 a0 a1 a2⟩

theorem Ru.setAll {v : Value} {l : List Nat} {b : Nat} {t : TypeId} (ht : t ≠ 94) : ∀ (vs : List Value) (n : Nat) (w : World), Ru w v l → TyB w b t → Ru (setAll w b n vs) v l
  | [], _, _, h, _ => h
  | x :: vs, n, w, h, hb => Ru.setAll ht vs (n + 1) _ (h.set hb ht n x) (hb.setCell n x)


set_option maxRecDepth 20000 in
set_option maxHeartbeats 2000000 in
theorem job_any (o : Opc) (ho : OkOp o) (w : World) : Calls Tryz.prog 7 #[ov o] w (JobPost w (jobF o)) := by
  obtain ⟨kd, ovo, ofr, ocl, ore, onu, ode⟩ := o
  obtain ⟨⟨v1, v2⟩, ⟨f1, f2⟩, ⟨c1, c2⟩, ⟨r1, r2⟩, ⟨n1, n2⟩, d1, d2⟩ := ho
  simp only at v1 v2 f1 f2 c1 c2 r1 r2 n1 n2 d1 d2
  unfold jobF jobN jobD
  simp only
  have hM := ((Mm.start (S := []) w (by simp)).push w.heap.size #[.int .i64 kd, .int .i64 ovo, .int .i64 ofr, .int .i64 ocl, .int .i64 ore, .int .i64 onu, .int .i64 ode] 23 rfl).push (w.heap.size + 1) #[.int .i64 0, .int .i64 0, .int .i64 0, .bool false, .slice none 0 0, .slice none 0 0, .int .i64 0] 29 (by simp)
  have HM := Lib.hid hM
  have HB0 := Lib.hid (hM.only.below (B := w.heap.size) (by simp) (Nat.le_refl _))
  have HTY := Lib.hid (show TyB ((w.alloc (.cells #[.int .i64 kd, .int .i64 ovo, .int .i64 ofr, .int .i64 ocl, .int .i64 ore, .int .i64 onu, .int .i64 ode] 23)).alloc (.cells #[.int .i64 0, .int .i64 0, .int .i64 0, .bool false, .slice none 0 0, .slice none 0 0, .int .i64 0] 29)) (w.heap.size + 1) 29 by
    have := TyB.new (w.alloc (.cells #[.int .i64 kd, .int .i64 ovo, .int .i64 ofr, .int .i64 ocl, .int .i64 ore, .int .i64 onu, .int .i64 ode] 23)) #[.int .i64 0, .int .i64 0, .int .i64 0, .bool false, .slice none 0 0, .slice none 0 0, .int .i64 0] 29
    simpa using this)
  obtain ⟨nn, hnn⟩ : ∃ m : Nat, onu % 5 = m := ⟨(onu % 5).toNat, by omega⟩
  obtain ⟨dd, hdd⟩ : ∃ m : Nat, ode % 4 = m := ⟨(ode % 4).toNat, by omega⟩
  obtain ⟨pv, hpv⟩ : ∃ m, ovo % 3 = m := ⟨_, rfl⟩
  obtain ⟨pf, hpf⟩ : ∃ m, ofr % 3 = m := ⟨_, rfl⟩
  obtain ⟨pc, hpc⟩ : ∃ m, ocl % 3 = m := ⟨_, rfl⟩
  obtain ⟨pr, hpr⟩ : ∃ m, ore % 3 = m := ⟨_, rfl⟩
  have hnb : nn < 5 := by omega
  have hdb : dd < 4 := by omega
  have hpb : 0 ≤ pc ∧ pc < 3 := by omega
  have K1 := fun w => Lib.hid (hnn ▸ within_any onu 5 w (by omega) (by omega) n1 n2)
  have K2 := fun w => Lib.hid (hdd ▸ within_any ode 4 w (by omega) (by omega) d1 d2)
  have K3 := fun w => Lib.hid (hpv ▸ within_any ovo 3 w (by omega) (by omega) v1 v2)
  have K4 := fun w => Lib.hid (hpf ▸ within_any ofr 3 w (by omega) (by omega) f1 f2)
  have K5 := fun w => Lib.hid (hpc ▸ within_any ocl 3 w (by omega) (by omega) c1 c2)
  have K6 := fun w => Lib.hid (hpr ▸ within_any ore 3 w (by omega) (by omega) r1 r2)
  rw [hpv, hpf, hpc, hpr, hnn, hdd]
  rw [show ((nn : Int)).toNat = nn by omega, show (1 + (dd : Int)).toNat = dd + 1 by omega]
  obtain ⟨D, hD⟩ : ∃ D, dd + 1 = D := ⟨_, rfl⟩
  rw [hD]
  have hdi : 1 + (dd : Int) = (D : Int) := by omega
  have hD4 : D ≤ 4 := by omega
  have hD0 : 0 < D := by omega
  have hwD : IntKind.i64.wrap (D : Int) = (D : Int) := IntWalk.i64_in _ (by omega)
  have hwc : IntKind.i64.wrap (1 + pc) = 1 + pc := IntWalk.i64_in _ (by omega)
  obtain ⟨X, hX⟩ : ∃ x, nn / Nat.gcd nn D = x := ⟨_, rfl⟩
  obtain ⟨Y, hY⟩ : ∃ x, D / Nat.gcd nn D = x := ⟨_, rfl⟩
  rw [hX, hY]
  have KM : ∀ w, Hid (Calls Tryz.prog 27 #[.int .i64 nn, .int .i64 D] w (FePost w X Y)) := fun w => Lib.hid (by rw [← hX, ← hY]; exact rfmake_as (by omega) (by omega) hD0 w)
  clear hM hnn hdd hpv hpf hpc hpr hX hY hD v1 v2 f1 f2 c1 c2 r1 r2 n1 n2 d1 d2
  go_enter Tryz.func7, Tryz.ntmps7
  go_wp2_with fail
  generalize (w.alloc (.cells #[.int .i64 kd, .int .i64 ovo, .int .i64 ofr, .int .i64 ocl, .int .i64 ore, .int .i64 onu, .int .i64 ode] 23)).alloc (.cells #[.int .i64 0, .int .i64 0, .int .i64 0, .bool false, .slice none 0 0, .slice none 0 0, .int .i64 0] 29) = W at *
  refine wp_region_pick (Below W.heap.size W) (Below W.heap.size W) [0, 1, 2, 3, 4, 5, 6] 7 rfl (by kernel_rfl) (by kernel_rfl) (by kernel_rfl) (fun _ _ h hb => h.trans (hb.mono h.size)) (fun _ h => h) (Below.refl _ _) ?_
  repeat (apply pRow_plain
          · exact rfl
          · exact rfl
          · intro wg hg
            ((obtain ⟨b0, b1, b2, b3, b4, b5, b6, -⟩ := (HM.out.call hg).lay7 1 rfl))
            go_simp
            first
              | exact rfl
              | exact Below.refl _ _
              | exact ⟨Below.refl _ _, rfl⟩
              | ((first
| ((with_reducible refine (K1 _).out.mono ?_); rintro e w' ⟨rfl, rfl⟩; exact ⟨rfl, Below.refl _ _⟩)
| ((with_reducible refine (K2 _).out.mono ?_); rintro e w' ⟨rfl, rfl⟩; exact ⟨rfl, Below.refl _ _⟩)))
          intro K hK
          go_simp
          refine hK _ ?_
          clear hK K)
  refine pRow_nil ?_
  refine lAny_step [7, 11] (by kernel_rfl) (by simp) fun j hj => ?_
  have hj' : j = 7 ∨ j = 11 := by simpa using hj
  rcases hj' with rfl | rfl
  · refine lOp_special' rfl (Mk W X Y) rfl (fun _ _ _ h hb => h.grow hb) (fun _ _ h => h.2) ?_ ?_
    · intro wg hg
      go_simp
      with_reducible refine (KM _).out.mono ?_
      rintro e w' ⟨a, c, a2, c2, rfl, k1, k2, hb⟩
      exact ⟨_, rfl, ⟨a, c, a2, c2, rfl, k1, k2⟩, hg.trans (hb.mono hg.size)⟩
    rintro u ⟨wq, ⟨⟨pa, pc1, pa2, pc2, rfl, -⟩, -⟩⟩
    clear wq
    go_simp
    refine lAny_pick' 3 [8, 9, 10] rfl (by kernel_rfl) (by kernel_rfl) ?_
    repeat (apply pRow_plain
            · exact rfl
            · exact rfl
            · intro wg hg
              ((skip))
              go_simp
              first
                | exact rfl
                | exact Below.refl _ _
                | exact ⟨Below.refl _ _, rfl⟩
                | ((fail))
            intro K hK
            go_simp
            refine hK _ ?_
            clear hK K)
    refine pRow_nil ?_
    refine lAny_step [11] (by kernel_rfl) (by simp) fun j hj => ?_
    obtain rfl : j = 11 := by simpa using hj
    refine lOp_box rfl rfl (T' := fun b => MkB W X Y (.tuple #[fv false (.slice pa (limb X).length pc1) (.slice pa2 (limb Y).length pc2), .int .i64 0]) b #[.bool false, .slice none 0 0, .slice none 0 0]) (fun _ _ _ h hb => h.grow hb) (fun _ _ h => h.1.2) ?_ ?_
    · intro wg hg
      have HK : MkB W X Y (.tuple #[fv false (.slice pa (limb X).length pc1) (.slice pa2 (limb Y).length pc2), .int .i64 0]) wg.heap.size #[.bool false, .slice none 0 0, .slice none 0 0] (wg.alloc (.cells #[.bool false, .slice none 0 0, .slice none 0 0] 27)) := ⟨hg.grow (below_alloc _ _), Bk.new hg.2 _⟩
      go_simp
      try first
        | exact HK
        | exact ⟨_, rfl, HK⟩
    intro bx
    go_simp
    (
      refine lAny_step [12] (by kernel_rfl) (by simp) fun j hj => ?_
      obtain rfl : j = 12 := by simpa using hj
      refine lOp_call undef rfl rfl (T' := MkB W X Y (.tuple #[fv false (.slice pa (limb X).length pc1) (.slice pa2 (limb Y).length pc2), .int .i64 0]) bx #[.bool false, .slice pa (limb X).length pc1, .slice pa2 (limb Y).length pc2]) (fun _ _ h hb => h.grow hb) (fun _ h => h.1.2) ?_ ?_
      · intro wg hg
        obtain ⟨c0, c1, c2, f0, f1, f2, cl⟩ := hg.2.holds.lay3
        have HK := hg.lay3 (.bool false) (.slice pa (limb X).length pc1) (.slice pa2 (limb Y).length pc2)
        go_simp
        try first
          | exact HK
          | exact ⟨rfl, HK⟩
      go_simp
      refine lAny_rest [13] (by kernel_rfl) (by kernel_rfl) (by kernel_rfl) ?_
      repeat (apply pRow_plain
              · exact rfl
              · exact rfl
              · intro wg hg
                ((skip))
                go_simp
                first
                  | exact rfl
                  | exact Below.refl _ _
                  | exact ⟨Below.refl _ _, rfl⟩
                  | ((skip))
              intro K hK
              go_simp
              refine hK _ ?_
              clear hK K)
      refine pRow_nil ?_
      intro w5 hq
      have HQ := Lib.hid hq
      clear hq
      have HM5 := Lib.hid (HM.out.call HQ.out.1.2)
      have HB5 := Lib.hid (HB0.out.trans (HQ.out.1.2.mono HB0.out.size))
      have HT5 := Lib.hid (HTY.out.keep HQ.out.1.2)
      go_wp2_with fail
      refine wp_region_grow_tail (Below w5.heap.size w5) 15 (by kernel_rfl) ?_ (Below.refl _ _).drew ?_
      · kernel_rfl
      simp only [List.take_succ_cons, List.take_zero, List.drop_succ_cons, List.drop_zero]
      repeat first
               | (apply gRow_plain
                  · exact rfl
                  · intro wg hg
                    ((obtain ⟨b0, b1, b2, b3, b4, b5, b6, -⟩ := (HM5.out.call hg).lay7 1 rfl; obtain ⟨c0, c1, c2, -⟩ := (HQ.out.2.holds.keep hg).lay3))
                    go_simp
                    first
                      | exact rfl
                      | exact hg
                      | exact ⟨hg, rfl⟩
                      | ((first
| ((with_reducible refine (K3 _).out.mono ?_); rintro e w' ⟨rfl, rfl⟩; exact ⟨rfl, hg⟩)
| ((with_reducible refine (K4 _).out.mono ?_); rintro e w' ⟨rfl, rfl⟩; exact ⟨rfl, hg⟩)
| ((with_reducible refine (K5 _).out.mono ?_); rintro e w' ⟨rfl, rfl⟩; exact ⟨rfl, hg⟩)
| ((with_reducible refine (K6 _).out.mono ?_); rintro e w' ⟨rfl, rfl⟩; exact ⟨rfl, hg⟩)))
                  intro K hK
                  go_simp
                  refine hK _ ?_
                  clear hK K)
               | (apply gRow_step
                  · go_simp; done
                  · intro wg hg
                    ((obtain ⟨b0, b1, b2, b3, b4, b5, b6, -⟩ := (HM5.out.call hg).lay7 1 rfl; obtain ⟨c0, c1, c2, -⟩ := (HQ.out.2.holds.keep hg).lay3))
                    go_simp
                    first
                      | exact rfl
                      | exact hg
                      | exact ⟨hg, rfl⟩
                      | ((first
| ((with_reducible refine (K3 _).out.mono ?_); rintro e w' ⟨rfl, rfl⟩; exact ⟨rfl, hg⟩)
| ((with_reducible refine (K4 _).out.mono ?_); rintro e w' ⟨rfl, rfl⟩; exact ⟨rfl, hg⟩)
| ((with_reducible refine (K5 _).out.mono ?_); rintro e w' ⟨rfl, rfl⟩; exact ⟨rfl, hg⟩)
| ((with_reducible refine (K6 _).out.mono ?_); rintro e w' ⟨rfl, rfl⟩; exact ⟨rfl, hg⟩)))
                  intro K hK
                  go_simp
                  refine hK _ ?_
                  clear hK K)
               | (apply gRow_not
                  · go_simp; done
                  intro K hK
                  go_simp
                  refine hK _ ?_
                  clear hK K)
      refine gRow_nil ?_
      intro w6 hb6
      have HM6 := Lib.hid (HM5.out.call hb6)
      have HT6 := Lib.hid (HT5.out.keep hb6)
      have HQ6 := Lib.hid (HQ.out.grow hb6)
      clear hb6
      obtain ⟨b0, b1, b2, b3, b4, b5, b6, f0, f1, f2, f3, f4, f5, f6, bl⟩ := HM6.out.lay7 0 rfl
      go_wp2_with fail
      have HM7 := HM6.out.put7 0 rfl (.int .i64 pv) (.int .i64 pf) (.int .i64 (1 + pc)) (.bool false) (.slice pa (limb X).length pc1) (.slice pa2 (limb Y).length pc2) (.int .i64 pr)
      obtain ⟨⟨⟨a, c, a2, c2, he, k1, k2⟩, -⟩, -⟩ := HQ6.out
      cases he
      clear b0 b1 b2 b3 b4 b5 b6 f0 f1 f2 f3 f4 f5 f6 bl
      have k3 := Ru.setAll (show (29 : TypeId) ≠ 94 by decide) [.int .i64 pv, .int .i64 pf, .int .i64 (1 + pc), .bool false, .slice pa (limb X).length pc1, .slice pa2 (limb Y).length pc2, .int .i64 pr] 0 w6 k1 HT6.out
      have k4 := Ru.setAll (show (29 : TypeId) ≠ 94 by decide) [.int .i64 pv, .int .i64 pf, .int .i64 (1 + pc), .bool false, .slice pa (limb X).length pc1, .slice pa2 (limb Y).length pc2, .int .i64 pr] 0 w6 k2 HT6.out
      simp only [setAll, Nat.zero_add, Nat.reduceAdd] at k3 k4
      refine bodyPost_ret (v := jv ⟨pv, pf, 1 + pc, pr, X, Y⟩ (.slice pa (limb X).length pc1) (.slice pa2 (limb Y).length pc2)) ?_ rfl ⟨pa, pc1, pa2, pc2, rfl, k3, k4, HM7.only.below (by simp) (Nat.le_refl _)⟩
      obtain ⟨d0, d1, d2, d3, d4, d5, d6, -⟩ := HM7.lay7 0 rfl
      simp [results, Tryz.results7, go_sem, d0, d1, d2, d3, d4, d5, d6])
  · refine lOp_box rfl rfl (T' := fun b => Bk W b #[.bool false, .slice none 0 0, .slice none 0 0]) (fun _ _ _ h hb => h.grow hb) (fun _ _ h => h.below) ?_ ?_
    · intro wg hg
      have HK := Bk.new hg #[.bool false, .slice none 0 0, .slice none 0 0]
      go_simp
      try first
        | exact HK
        | exact ⟨_, rfl, HK⟩
    intro bx
    go_simp
    refine lAny_step [7] (by kernel_rfl) (by simp) fun j hj => ?_
    obtain rfl : j = 7 := by simpa using hj
    refine lOp_special' rfl (fun u => MkB W X Y u bx #[.bool false, .slice none 0 0, .slice none 0 0]) rfl (fun _ _ _ h hb => h.grow hb) (fun _ _ h => h.1.2) ?_ ?_
    · intro wg hg
      go_simp
      with_reducible refine (KM _).out.mono ?_
      rintro e w' ⟨a, c, a2, c2, rfl, k1, k2, hb⟩
      exact ⟨_, rfl, ⟨⟨a, c, a2, c2, rfl, k1, k2⟩, hg.below.trans (hb.mono hg.below.size)⟩, hg.grow hb⟩
    rintro u ⟨wq, ⟨⟨⟨pa, pc1, pa2, pc2, rfl, -⟩, -⟩, -⟩⟩
    clear wq
    go_simp
    refine lAny_pick' 2 [8, 9, 10] rfl (by kernel_rfl) (by kernel_rfl) ?_
    repeat (apply pRow_plain
            · exact rfl
            · exact rfl
            · intro wg hg
              ((skip))
              go_simp
              first
                | exact rfl
                | exact Below.refl _ _
                | exact ⟨Below.refl _ _, rfl⟩
                | ((fail))
            intro K hK
            go_simp
            refine hK _ ?_
            clear hK K)
    refine pRow_nil ?_
    (
      refine lAny_step [12] (by kernel_rfl) (by simp) fun j hj => ?_
      obtain rfl : j = 12 := by simpa using hj
      refine lOp_call undef rfl rfl (T' := MkB W X Y (.tuple #[fv false (.slice pa (limb X).length pc1) (.slice pa2 (limb Y).length pc2), .int .i64 0]) bx #[.bool false, .slice pa (limb X).length pc1, .slice pa2 (limb Y).length pc2]) (fun _ _ h hb => h.grow hb) (fun _ h => h.1.2) ?_ ?_
      · intro wg hg
        obtain ⟨c0, c1, c2, f0, f1, f2, cl⟩ := hg.2.holds.lay3
        have HK := hg.lay3 (.bool false) (.slice pa (limb X).length pc1) (.slice pa2 (limb Y).length pc2)
        go_simp
        try first
          | exact HK
          | exact ⟨rfl, HK⟩
      go_simp
      refine lAny_rest [13] (by kernel_rfl) (by kernel_rfl) (by kernel_rfl) ?_
      repeat (apply pRow_plain
              · exact rfl
              · exact rfl
              · intro wg hg
                ((skip))
                go_simp
                first
                  | exact rfl
                  | exact Below.refl _ _
                  | exact ⟨Below.refl _ _, rfl⟩
                  | ((skip))
              intro K hK
              go_simp
              refine hK _ ?_
              clear hK K)
      refine pRow_nil ?_
      intro w5 hq
      have HQ := Lib.hid hq
      clear hq
      have HM5 := Lib.hid (HM.out.call HQ.out.1.2)
      have HB5 := Lib.hid (HB0.out.trans (HQ.out.1.2.mono HB0.out.size))
      have HT5 := Lib.hid (HTY.out.keep HQ.out.1.2)
      go_wp2_with fail
      refine wp_region_grow_tail (Below w5.heap.size w5) 15 (by kernel_rfl) ?_ (Below.refl _ _).drew ?_
      · kernel_rfl
      simp only [List.take_succ_cons, List.take_zero, List.drop_succ_cons, List.drop_zero]
      repeat first
               | (apply gRow_plain
                  · exact rfl
                  · intro wg hg
                    ((obtain ⟨b0, b1, b2, b3, b4, b5, b6, -⟩ := (HM5.out.call hg).lay7 1 rfl; obtain ⟨c0, c1, c2, -⟩ := (HQ.out.2.holds.keep hg).lay3))
                    go_simp
                    first
                      | exact rfl
                      | exact hg
                      | exact ⟨hg, rfl⟩
                      | ((first
| ((with_reducible refine (K3 _).out.mono ?_); rintro e w' ⟨rfl, rfl⟩; exact ⟨rfl, hg⟩)
| ((with_reducible refine (K4 _).out.mono ?_); rintro e w' ⟨rfl, rfl⟩; exact ⟨rfl, hg⟩)
| ((with_reducible refine (K5 _).out.mono ?_); rintro e w' ⟨rfl, rfl⟩; exact ⟨rfl, hg⟩)
| ((with_reducible refine (K6 _).out.mono ?_); rintro e w' ⟨rfl, rfl⟩; exact ⟨rfl, hg⟩)))
                  intro K hK
                  go_simp
                  refine hK _ ?_
                  clear hK K)
               | (apply gRow_step
                  · go_simp; done
                  · intro wg hg
                    ((obtain ⟨b0, b1, b2, b3, b4, b5, b6, -⟩ := (HM5.out.call hg).lay7 1 rfl; obtain ⟨c0, c1, c2, -⟩ := (HQ.out.2.holds.keep hg).lay3))
                    go_simp
                    first
                      | exact rfl
                      | exact hg
                      | exact ⟨hg, rfl⟩
                      | ((first
| ((with_reducible refine (K3 _).out.mono ?_); rintro e w' ⟨rfl, rfl⟩; exact ⟨rfl, hg⟩)
| ((with_reducible refine (K4 _).out.mono ?_); rintro e w' ⟨rfl, rfl⟩; exact ⟨rfl, hg⟩)
| ((with_reducible refine (K5 _).out.mono ?_); rintro e w' ⟨rfl, rfl⟩; exact ⟨rfl, hg⟩)
| ((with_reducible refine (K6 _).out.mono ?_); rintro e w' ⟨rfl, rfl⟩; exact ⟨rfl, hg⟩)))
                  intro K hK
                  go_simp
                  refine hK _ ?_
                  clear hK K)
               | (apply gRow_not
                  · go_simp; done
                  intro K hK
                  go_simp
                  refine hK _ ?_
                  clear hK K)
      refine gRow_nil ?_
      intro w6 hb6
      have HM6 := Lib.hid (HM5.out.call hb6)
      have HT6 := Lib.hid (HT5.out.keep hb6)
      have HQ6 := Lib.hid (HQ.out.grow hb6)
      clear hb6
      obtain ⟨b0, b1, b2, b3, b4, b5, b6, f0, f1, f2, f3, f4, f5, f6, bl⟩ := HM6.out.lay7 0 rfl
      go_wp2_with fail
      have HM7 := HM6.out.put7 0 rfl (.int .i64 pv) (.int .i64 pf) (.int .i64 (1 + pc)) (.bool false) (.slice pa (limb X).length pc1) (.slice pa2 (limb Y).length pc2) (.int .i64 pr)
      obtain ⟨⟨⟨a, c, a2, c2, he, k1, k2⟩, -⟩, -⟩ := HQ6.out
      cases he
      clear b0 b1 b2 b3 b4 b5 b6 f0 f1 f2 f3 f4 f5 f6 bl
      have k3 := Ru.setAll (show (29 : TypeId) ≠ 94 by decide) [.int .i64 pv, .int .i64 pf, .int .i64 (1 + pc), .bool false, .slice pa (limb X).length pc1, .slice pa2 (limb Y).length pc2, .int .i64 pr] 0 w6 k1 HT6.out
      have k4 := Ru.setAll (show (29 : TypeId) ≠ 94 by decide) [.int .i64 pv, .int .i64 pf, .int .i64 (1 + pc), .bool false, .slice pa (limb X).length pc1, .slice pa2 (limb Y).length pc2, .int .i64 pr] 0 w6 k2 HT6.out
      simp only [setAll, Nat.zero_add, Nat.reduceAdd] at k3 k4
      refine bodyPost_ret (v := jv ⟨pv, pf, 1 + pc, pr, X, Y⟩ (.slice pa (limb X).length pc1) (.slice pa2 (limb Y).length pc2)) ?_ rfl ⟨pa, pc1, pa2, pc2, rfl, k3, k4, HM7.only.below (by simp) (Nat.le_refl _)⟩
      obtain ⟨d0, d1, d2, d3, d4, d5, d6, -⟩ := HM7.lay7 0 rfl
      simp [results, Tryz.results7, go_sem, d0, d1, d2, d3, d4, d5, d6])
end Go.Proofs.YtgnmolleaengaaaGreat
