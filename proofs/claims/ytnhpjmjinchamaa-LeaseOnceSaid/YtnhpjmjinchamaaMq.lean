/- The map laws at the operations, for maps whose keys are pairs; the table of leases in memory. -/
import Derived.Test.YtnhpjmjinchamaaMp
import Derived.Test.YtnhpjmjinchamaaMs
import Derived.Maps.OwnSet
import Derived.WalkKit
set_option linter.unusedVariables false
set_option linter.unusedSimpArgs false
set_option linter.unnecessarySimpa false
namespace Go.Proofs.Ytnhpjmjinchamaa
open Go Go.RowKit Go.MapKept Go.ChangeMaps

theorem only_setBlock {w : World} {b : Nat} (o : Obj) : Only [b] w (setBlock w b o) :=
  ⟨rfl, rfl, rfl, by simp [setBlock], fun k hk hs => setBlock_other o (by simpa using hs)⟩
theorem MapV.only {w w' : World} {b : Nat} {F : Pk → Option Value} {S : List Nat} (h : MapV w b F) (ho : Only S w w') (hb : b ∉ S) : MapV w' b F := h.keep (ho.block b h.lt hb)
theorem MapV.below {w w' : World} {b : Nat} {F : Pk → Option Value} (h : MapV w b F) (ho : Below w.heap.size w w') : MapV w' b F := h.keep (ho.block b h.lt)
theorem MapE.below {w w' : World} {b : Nat} {k : Pk} {s : Int} {F : Pk → Option Value} (h : MapE w b k s F) (ho : Below w.heap.size w w') : MapE w' b k s F := h.keep (ho.block b h.lt)
theorem MapE.only {w w' : World} {b : Nat} {k : Pk} {s : Int} {F : Pk → Option Value} {S : List Nat} (h : MapE w b k s F) (ho : Only S w w') (hb : b ∉ S) : MapE w' b k s F := h.keep (ho.block b h.lt hb)

section
variable {P : Program} {t m e : TypeId} {ops : Array Oper} {rest : List Oper} {o : Oper} {a : Act} {Q : Exit → Act → World → Prop} {w : World} {b : Nat} {F : Pk → Option Value}

theorem wpList_look (hg : o.guard = none) (x y : Operand) (c : Bool) (hop : o.op = Op.lookup m x y c) (K : PairKey P t) (hm : P.underlying m = some (.map t e)) {z : Value} (hz : (zeroValue e).run P w = .ok z w)
    (hx : a.eval x = .map (some b)) (k : Pk) (hy : a.eval y = kv k) (h : MapV w b F) (hK : wpList P ops Q rest (a.put o.dst (if c then .tuple #[(F k).getD z, .bool (F k).isSome] else (F k).getD z)) w) :
    wpList P ops Q (o :: rest) a w := by
  refine wpList_plain hg fun K' hK' => ?_
  have hrun := h.lookup K hm hz k c
  unfold Oper.wp
  simp [execOp, hop, hx, hy, hrun, Result.andThen]
  exact hK' _ _ hK

theorem wpList_update (hg : o.guard = none) (x y u : Operand) (hop : o.op = Op.mapUpdate m x y u) (K : PairKey P t) (hm : P.underlying m = some (.map t e))
    (hx : a.eval x = .map (some b)) (k : Pk) (hy : a.eval y = kv k) (v : Value) (hv : a.eval u = v) (h : MapV w b F) (hK : ∀ w', MapV w' b (upd F k (some v)) → Only [b] w w' → wpList P ops Q rest (a.put o.dst undef) w') :
    wpList P ops Q (o :: rest) a w := by
  refine wpList_plain hg fun K' hK' => ?_
  obtain ⟨es, cl, hrun, h2⟩ := h.update K hm k v
  unfold Oper.wp
  simp [execOp, hop, hx, hy, hv, hrun, Result.andThen]
  exact hK' _ _ (hK _ h2 (only_setBlock _))

theorem wpList_entry (hg : o.guard = none) (x y : Operand) (hop : o.op = Op.mapEntry m x y) (K : PairKey P t) (hm : P.underlying m = some (.map t e)) {z : Value} (hz : (zeroValue e).run P w = .ok z w)
    (hx : a.eval x = .map (some b)) (k : Pk) (hy : a.eval y = kv k) (h : MapV w b F) (hK : ∀ s w', MapE w' b k s (upd F k (some ((F k).getD z))) → Only [b] w w' → wpList P ops Q rest (a.put o.dst (.tuple #[(F k).getD z, .int .i64 s])) w') :
    wpList P ops Q (o :: rest) a w := by
  refine wpList_plain hg fun K' hK' => ?_
  obtain ⟨es, cl, s, hrun, h2⟩ := h.entry K hm hz k
  unfold Oper.wp
  simp [execOp, hop, hx, hy, hrun, Result.andThen]
  exact hK' _ _ (hK _ _ h2 (only_setBlock _))

theorem wpList_estore (hg : o.guard = none) (x y u : Operand) (hop : o.op = Op.entryStore m x y u) (hx : a.eval x = .map (some b)) {k : Pk} {s : Int} (hy : a.eval y = .int .i64 s) (v : Value) (hv : a.eval u = v) (h : MapE w b k s F)
    (hK : ∀ w', MapV w' b (upd F k (some v)) → Only [b] w w' → wpList P ops Q rest (a.put o.dst undef) w') :
    wpList P ops Q (o :: rest) a w := by
  refine wpList_plain hg fun K' hK' => ?_
  obtain ⟨es, cl, hrun, h2⟩ := h.store (P := P) (m := m) v
  unfold Oper.wp
  simp [execOp, hop, hx, hy, hv, hrun, Result.andThen]
  exact hK' _ _ (hK _ h2 (only_setBlock _))

theorem wpList_drop (hg : o.guard = none) (x y : Operand) (hop : o.op = .call { callee := .builtin .delete, args := #[x, y], argTypes := #[m, t] }) (K : PairKey P t) (hm : P.underlying m = some (.map t e))
    (hx : a.eval x = .map (some b)) (k : Pk) (hy : a.eval y = kv k) (h : MapV w b F) (hK : ∀ w', MapV w' b (upd F k none) → Only [b] w w' → wpList P ops Q rest (a.put o.dst (.tuple #[])) w') :
    wpList P ops Q (o :: rest) a w := by
  refine wpList_plain hg fun K' hK' => ?_
  obtain ⟨es, cl, hrun, h2⟩ := h.drop (ty := o.type) K hm k
  unfold Oper.wp
  simp [execOp, hop, resolve, invoke, builtin, hx, hy, hrun, Result.andThen]
  exact hK' _ _ (hK _ h2 (only_setBlock _))
end
end Go.Proofs.Ytnhpjmjinchamaa
