/- sort.Slice of a slice of sets. -/
import Derived.Test.YthljjllcdocfiaaB6
import Derived.Shelf.GgSortFunc.Tiny
set_option linter.unusedVariables false
set_option linter.unusedSimpArgs false
set_option linter.unnecessarySimpa false
namespace Go.Proofs.Ythljjllcdocfiaa
open Go Go.RowKit Go.MapKept Go.Shelf Go.Lib Go.Sort

noncomputable def siT : TypeInfo := (Try.prog.info? 35).get (by kernel_rfl)
noncomputable def siE : TypeInfo := (Try.prog.info? 31).get (by kernel_rfl)
theorem siK (n : Nat) (h : 2 ≤ n) : swapperK n siE 23 = 9 := by
  have hp : siE.hasPointers = true := by kernel_rfl
  have hb : siE.bytes = 24 := by kernel_rfl
  unfold swapperK
  simp [hp, hb, show ¬ n = 0 by omega, show ¬ n = 1 by omega]
theorem swapper9 : Try.prog.funcs.findIdx? (·.name == "internal/reflectlite" ++ ".Swapper$" ++ toString 9) = some 76 := by kernel_rfl
theorem swapper1 : Try.prog.funcs.findIdx? (·.name == "internal/reflectlite" ++ ".Swapper$" ++ toString 1) = some 68 := by kernel_rfl
theorem swapper2 : Try.prog.funcs.findIdx? (·.name == "internal/reflectlite" ++ ".Swapper$" ++ toString 2) = some 69 := by kernel_rfl
theorem sort_tiny (p : Option Addr) (n c : Nat) (h1 : n ≤ 1) (lf : Fn) (la lb : Array Value) (w : World) : Calls Try.prog 38 #[.iface 35 (.slice p n c), .func lf la lb] w fun e w' => e = .returned (.tuple #[]) ∧ Below w.heap.size w w' := by
  have key : ∃ f, Try.prog.funcs.findIdx? (·.name == "internal/reflectlite" ++ ".Swapper$" ++ toString (swapperK n siE 23)) = some f := by
    rcases (by omega : n = 0 ∨ n = 1) with rfl | rfl
    · exact ⟨68, by rw [show swapperK 0 siE 23 = 1 by simp [swapperK]]; exact swapper1⟩
    · exact ⟨69, by rw [show swapperK 1 siE 23 = 2 by simp [swapperK]]; exact swapper2⟩
  obtain ⟨f, hf⟩ := key
  refine (Any.sort_Slice_tiny slice6 35 31 siT siE (by kernel_rfl) (by kernel_rfl) (by kernel_rfl) (by kernel_rfl) 23 (fun _ => by kernel_rfl) p n c h1 f hf lf la lb w).mono ?_
  rintro e w' ⟨rfl, os, rfl⟩
  exact ⟨rfl, rfl, rfl, rfl, by simp [Sort.grow], fun k hk => by simp [Sort.grow, Array.getElem?_append, hk]⟩

def encS {w : World} {g : Nat} (x : SetAt w g) : Value := hv x.h
def ltS {w : World} {g : Nat} (x y : SetAt w g) : Bool := lessL x.r y.r
theorem swoS (w : World) (g : Nat) : SWO (ltS (w := w) (g := g)) := ⟨fun x => less_irrefl _, fun x y z h1 h2 => less_trans h1 h2, fun x y z h1 h2 => less_ntrans h1 h2⟩

set_option maxHeartbeats 1000000 in
theorem sort_many {w0 w : World} {g n c b13 : Nat} {hs : List Hd} {L : List (List Int)} (h : RO w0 w (.slice (some ⟨g, 0, none⟩) n c) hs L) (h13 : w.cell? ⟨b13, 0, none⟩ = some (.slice (some ⟨g, 0, none⟩) n c)) (hb13 : b13 ≠ g) (hb : b13 < w.heap.size) (hn : n ≤ 1000000) (h2 : 2 ≤ n) :
    Calls Try.prog 38 #[.iface 35 (.slice (some ⟨g, 0, none⟩) n c), .func (.func 39) #[] #[.pointer (some ⟨b13, 0, none⟩)]] w fun e w' => e = .returned (.tuple #[]) ∧ Only [g] w w' ∧ ∃ hs' L', RO w0 w' (.slice (some ⟨g, 0, none⟩) n c) hs' L' ∧ L'.Perm L ∧ L'.Pairwise (fun x y => lessL y x = false) := by
  have hgl := (h.own.row.lt g rfl).2
  obtain ⟨d, hd1, hd2⟩ := sets_zip (w := w) (g := g) hs L h.len (fun i x r hx hr => ⟨(h.row i x r hx hr).1, fun h0 b hb q => (h.row i x r hx hr).2 h0 b hb (by rw [q]; rfl)⟩)
  obtain rfl : n = hs.length := by obtain ⟨a, cp, q⟩ := h.own.val; cases q; rfl
  have hdl : d.length = hs.length := by rw [← hd1, List.length_map]
  have hfl : eH.flat hs = d.toArray.toList.map (encS (w := w) (g := g)) := by
    rw [← hd1]
    simp [Enc.flat, eH, flat_map1, encS]
  have hH := ow_holds encS d.toArray rfl hfl h.own
  rw [← hdl] at h13 h2 hn ⊢
  have hless : LessReads Try.prog 39 #[.pointer (some ⟨b13, 0, none⟩)] (encS (w := w) (g := g)) ltS g 0 d.toArray.size w := by
    intro m os dk hs' i j hi hj
    have e : sortWorld (encS (w := w) (g := g)) w g 0 m dk os = putRow encS (Sort.grow (Sort.ahead w m) os) g 0 dk := by
      unfold sortWorld; rw [putRow_grow _ (Sort.ahead w m) _ g 0 _ hgl]
    have hHg : Go.Sort.Holds (encS (w := w) (g := g)) (Sort.grow (Sort.ahead w m) os) g 0 d.toArray := holds_grow _ _ _ g 0 d.toArray hgl (holds_ahead _ _ _ _ _ _ hH)
    have hO := only_put (encS (w := w) (g := g)) w g 0 m dk os
    have row : ∀ x : SetAt w g, Rd eI (sortWorld (encS (w := w) (g := g)) w g 0 m dk os) (hv x.h) x.r := by
      intro x
      obtain ⟨y, r, hy, hyb⟩ := x
      obtain ⟨a, cap, ev, hl, hm⟩ := hy
      refine ⟨a, cap, ev, hl, ?_⟩
      rcases hm with hm | ⟨b, off, rfl, hlt, hc⟩
      · exact .inl hm
      · by_cases h0 : r = []
        · exact .inl h0
        · right
          have hne := hyb h0 b (by show (hv y).ownBlock = some b; rw [show hv y = _ from ev]; rfl)
          refine ⟨b, off, rfl, Nat.lt_of_lt_of_le hlt hO.size, fun q u hu => ?_⟩
          have := hO.block b hlt (by simpa using hne)
          exact (World.cell?_of_block (a := ⟨b, off + q, none⟩) this).trans (hc q u hu)
    have ci : ∀ t, t < dk.size → (sortWorld (encS (w := w) (g := g)) w g 0 m dk os).cell? ⟨g, t, none⟩ = some (hv (dk[t]!).h) := fun t ht => by
      have := cell?_putRow encS _ g 0 d.toArray dk hHg hs' t ht
      rw [Nat.zero_add] at this
      rw [e]
      exact this
    have h13' : (sortWorld (encS (w := w) (g := g)) w g 0 m dk os).cell? ⟨b13, 0, none⟩ = some (.slice (some ⟨g, 0, none⟩) d.length c) := by
      have := hO.block b13 hb (by simpa using hb13)
      exact (World.cell?_of_block (a := ⟨b13, 0, none⟩) this).trans h13
    have hii := ci i (by rw [hs']; exact hi)
    have hjj := ci j (by rw [hs']; exact hj)
    exact less_closure (x := dk[i]!.r) (y := dk[j]!.r) h13' (by simpa using hi) (by simpa using hj) hn hii hjj (row _) (row _) rfl
  have hS := Any.sort_Slice_sorted slice6 35 31 siT siE (by kernel_rfl) (by kernel_rfl) (by kernel_rfl) (by kernel_rfl) 23 (fun _ => by kernel_rfl) (by kernel_rfl) (fun _ => by kernel_rfl) (encS (w := w) (g := g)) (fun _ => rfl) ltS (swoS w g) 39 #[.pointer (some ⟨b13, 0, none⟩)]
    (enters_of Try.func39 (by kernel_rfl) rfl) g 0 c d.toArray (by simpa using h2) (by simp; omega) 76 (by rw [show d.toArray.size = d.length by simp, siK _ h2]; exact swapper9) false
    (fun args W => run_callFunc_extern Try.func76 (by kernel_rfl) (by kernel_rfl) (by kernel_rfl) (e := Extern.ReflectliteSwapper.swap false) (by kernel_rfl) args W) w hless hH hgl
  refine hS.mono ?_
  rintro e w' ⟨rfl, d', q, os, hP, hSo, rfl⟩
  have hperm := perm_of hP
  have hsz : d'.size = d.length := by have := hP.1; simpa using this
  refine ⟨rfl, only_put _ _ _ _ _ _ _, d'.toList.map (fun x => x.h), d'.toList.map (fun x => x.r), ⟨?_, by simp, ?_⟩, ?_, ?_⟩
  · rw [hdl]
    exact ow_put encS d' rfl (by simp [Enc.flat, eH, flat_map1, encS]) (by simp [hsz, hdl]) h.own q os
  · intro i x r hx hr
    simp only [List.getElem?_map, Option.map_eq_some_iff] at hx hr
    obtain ⟨y, hy, rfl⟩ := hx
    obtain ⟨y', hy', rfl⟩ := hr
    rw [hy] at hy'
    cases hy'
    have hO := only_put (encS (w := w) (g := g)) w g 0 q d' os
    obtain ⟨z, r, hz, hzb⟩ := y
    refine ⟨?_, fun h0 b hb q => ?_⟩
    · obtain ⟨a, cap, ev, hl, hm⟩ := hz
      refine ⟨a, cap, ev, hl, ?_⟩
      rcases hm with hm | ⟨b, off, rfl, hlt, hc⟩
      · exact .inl hm
      · by_cases h0 : r = []
        · exact .inl h0
        · right
          have hne := hzb h0 b (by show (hv z).ownBlock = some b; rw [show hv z = _ from ev]; rfl)
          refine ⟨b, off, rfl, Nat.lt_of_lt_of_le hlt hO.size, fun q u hu => ?_⟩
          have := hO.block b hlt (by simpa using hne)
          exact (World.cell?_of_block (a := ⟨b, off + q, none⟩) this).trans (hc q u hu)
    · exact hzb h0 b hb (by simp [Value.ownBlock] at q; exact q.symm)
  · have := hperm.map (fun x => x.r)
    rw [show d.toArray.toList = d by simp, hd2] at this
    exact this
  · have := pairs_of (n := d.toArray.size) (by simp [hsz]) hSo
    rw [List.pairwise_map]
    exact this
end Go.Proofs.Ythljjllcdocfiaa
