/-
  No cell of these rows narrows 'for every input' (looked for: loops, veiled, ifaces, maps, wideKeys, modest, calm, conditions, laid).
  DERIVED. THE GIVEN ROWS OF THIS SEAT. 2 by the template 'for every input the law returns true; each argument reads behind the call as it read before'; 0 by the template 'total and deterministic' (their statements: YtgnmolleaengaaaTotals.lean).
  GIVEN WITH THE SEED: the statements are not yours to turn. If you find one false, say at which input.
  Laid BY PROGRAM, IN A SANDBOX (cutbox-rows.mjs): the forced cells as the released guide's own fill.sh prints them over the translation 3f1aacecfc7b42fe… (all of the seat's roots in one cut). By AI agents, Wed Nov 11 2026. No macro, syntax, notation, axiom, sorry.
-/
import Derived.Test.YtgnmolleaengaaaChecked
import GoSem.Claim
import GoSem.ClaimJoined
import GoSem.ClaimMapViews
import Derived.JoinedTies
import Derived.KernelRfl
namespace Go.Proofs.Ytgnmolleaengaaa
/- THE CELL 'sum', in the pinned program and in every row, IS THE sha256 OF THE DUMP (.gsa) THAT YtgnmolleaengaaaProg.lean LOADS. Nothing in Lean hashes anything: it is a label: what it is worth is what the hold of that sum in a sandbox is worth. -/
noncomputable def Try.pinned : Pinned := { name := "ytgnmolleaengaaa", sum := "3f1aacecfc7b42fe4cc14bf5efb4f56a7486ebd93269d8a5e4e1c869590344cf", checked := Try.checked }
namespace Rows
def none {H : Type} : Left H := { results := [], args := [] }

/-- 'drydocklaw34.RepairqPreempts': WHATEVER THE INPUT: true; the input reads as it did. -/
def repairqPreemptsSpec : ChangeSpec := { name := "repairqPreempts", fn := fun _ => fun
  | [d] => { results := [.lit (.bool true)], args := [d] }
  | _ => none }
def repairqPreemptsRow : OpenClaim := { program := "ytgnmolleaengaaa", sum := "3f1aacecfc7b42fe4cc14bf5efb4f56a7486ebd93269d8a5e4e1c869590344cf", func := "drydock/drydocklaw34.RepairqPreempts", spec := "repairqPreempts", inPlace := ["internal/reflectlite.ValueOf", "internal/reflectlite.Swapper", "(internal/reflectlite.Value).Len"], unfollowed := true, recurses := true, apart := false }
def RepairqPreemptsSaid : Prop := repairqPreemptsRow.holds Try.pinned (OpenSpec.ofChange repairqPreemptsSpec)

/-- ITS FALSE NEIGHBOUR: 'it returns false'. Refute it at one input. -/
def repairqPreemptsWrong : ChangeSpec := { name := "repairqPreempts", fn := fun _ => fun
  | [d] => { results := [.lit (.bool false)], args := [d] }
  | _ => none }
def RepairqPreemptsWrongFalsely : Prop := repairqPreemptsRow.holds Try.pinned (OpenSpec.ofChange repairqPreemptsWrong)

/-- 'drydocklaw34.RepairqNil': WHATEVER THE INPUT: true; the input reads as it did. -/
def repairqNilSpec : ChangeSpec := { name := "repairqNil", fn := fun _ => fun
  | [d] => { results := [.lit (.bool true)], args := [d] }
  | _ => none }
def repairqNilRow : OpenClaim := { program := "ytgnmolleaengaaa", sum := "3f1aacecfc7b42fe4cc14bf5efb4f56a7486ebd93269d8a5e4e1c869590344cf", func := "drydock/drydocklaw34.RepairqNil", spec := "repairqNil", inPlace := ["internal/reflectlite.ValueOf", "internal/reflectlite.Swapper", "(internal/reflectlite.Value).Len"], unfollowed := true, recurses := true, apart := false }
def RepairqNilSaid : Prop := repairqNilRow.holds Try.pinned (OpenSpec.ofChange repairqNilSpec)

/-- ITS FALSE NEIGHBOUR: 'it returns false'. Refute it at one input. -/
def repairqNilWrong : ChangeSpec := { name := "repairqNil", fn := fun _ => fun
  | [d] => { results := [.lit (.bool false)], args := [d] }
  | _ => none }
def RepairqNilWrongFalsely : Prop := repairqNilRow.holds Try.pinned (OpenSpec.ofChange repairqNilWrong)

/- THE SECOND FORM. 'bulk': how many values and letters a reading holds, each counted each time it is reached (what is shared counts as often as it is met; a slice's spare places count too). A statement '..UptoSaid' is the law's where the arguments, and the package variables that the reading takes, are together of bulk at most 1048576: NARROWER than '..Said'. Prove '..Said' where nothing that the law and all that it calls make is longer than what came in: it says more and counts as full. Else prove '..UptoSaid'. A law counts once. -/
mutual
def uptoBulk {H : Type} : DataW H → Nat
  | .lit (.string bytes) => bytes.length + 1
  | .lit _ => 1
  | .nil => 1
  | .ptr d => uptoBulk d + 1
  | .slice elems spare => uptoBulkAll elems + uptoBulkAll spare + 1
  | .agg parts => uptoBulkAll parts + 1
  | .iface _ d => uptoBulk d + 1
  | .map entries => uptoBulkEntries entries + 1
  | .held _ => 1
def uptoBulkAll {H : Type} : List (DataW H) → Nat
  | [] => 0
  | d :: r => uptoBulk d + uptoBulkAll r
def uptoBulkEntries {H : Type} : List (Lit × DataW H) → Nat
  | [] => 0
  | x :: r => uptoBulkEntry x + uptoBulkEntries r
def uptoBulkEntry {H : Type} : Lit × DataW H → Nat
  | (.string bytes, d) => bytes.length + uptoBulk d + 1
  | (_, d) => uptoBulk d + 1
 end
def uptoSmall : (H : Type) → List (DataW H) → Bool := fun _ ds => decide (uptoBulkAll ds ≤ 1048576)
def OpenSpec.upto (s : _root_.Go.ChangeSpec) : _root_.Go.OpenSpec := { _root_.Go.OpenSpec.ofChange s with cond := some uptoSmall }

/-- 'drydocklaw34.RepairqPreempts', WHERE WHAT IT READS IS OF BULK AT MOST 1048576: true; the input reads as it did. -/
def repairqPreemptsUptoRow : OpenClaim := { program := "ytgnmolleaengaaa", sum := "3f1aacecfc7b42fe4cc14bf5efb4f56a7486ebd93269d8a5e4e1c869590344cf", func := "drydock/drydocklaw34.RepairqPreempts", spec := "repairqPreempts", inPlace := ["internal/reflectlite.ValueOf", "internal/reflectlite.Swapper", "(internal/reflectlite.Value).Len"], unfollowed := true, recurses := true, apart := false, narrowed := true }
def RepairqPreemptsUptoSaid : Prop := repairqPreemptsUptoRow.holds Try.pinned (OpenSpec.upto repairqPreemptsSpec)

/-- 'drydocklaw34.RepairqNil', WHERE WHAT IT READS IS OF BULK AT MOST 1048576: true; the input reads as it did. -/
def repairqNilUptoRow : OpenClaim := { program := "ytgnmolleaengaaa", sum := "3f1aacecfc7b42fe4cc14bf5efb4f56a7486ebd93269d8a5e4e1c869590344cf", func := "drydock/drydocklaw34.RepairqNil", spec := "repairqNil", inPlace := ["internal/reflectlite.ValueOf", "internal/reflectlite.Swapper", "(internal/reflectlite.Value).Len"], unfollowed := true, recurses := true, apart := false, narrowed := true }
def RepairqNilUptoSaid : Prop := repairqNilUptoRow.holds Try.pinned (OpenSpec.upto repairqNilSpec)

end Rows
end Go.Proofs.Ytgnmolleaengaaa
