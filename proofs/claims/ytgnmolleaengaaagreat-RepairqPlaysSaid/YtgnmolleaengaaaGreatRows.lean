/-
  No cell of these rows narrows 'for every input' (looked for: loops, veiled, ifaces, maps, wideKeys, modest, calm, conditions, laid).
  DERIVED. THE GIVEN ROWS OF THIS SEAT. 4 by the template 'for every input the law returns true; each argument reads behind the call as it read before'; 0 by the template 'total and deterministic' (their statements: YtgnmolleaengaaaGreatTotals.lean).
  GIVEN WITH THE SEED: the statements are not yours to turn. If you find one false, say at which input.
  Laid BY PROGRAM, IN A SANDBOX (cutbox-rows.mjs): the forced cells as the released guide's own fill.sh prints them over the translation 9f341448b7d59a92… (all of the seat's roots in one cut). By AI agents, Wed Nov 11 2026. No macro, syntax, notation, axiom, sorry.
-/
import Derived.Test.YtgnmolleaengaaaGreatChecked
import GoSem.Claim
import GoSem.ClaimJoined
import GoSem.ClaimMapViews
import Derived.JoinedTies
import Derived.KernelRfl
namespace Go.Proofs.YtgnmolleaengaaaGreat
/- THE CELL 'sum', in the pinned program and in every row, IS THE sha256 OF THE DUMP (.gsa) THAT YtgnmolleaengaaaGreatProg.lean LOADS. Nothing in Lean hashes anything: it is a label: what it is worth is what the hold of that sum in a sandbox is worth. -/
noncomputable def Tryz.pinned : Pinned := { name := "ytgnmolleaengaaagreat", sum := "9f341448b7d59a9233cdb8903b19e00c96783108379a5e75dd5ed21718acbd4c", checked := Tryz.checked }
namespace Rows
def none {H : Type} : Left H := { results := [], args := [] }

/-- 'drydocklaw34.RepairqOrders': WHATEVER THE INPUT: true; the input reads as it did. -/
def repairqOrdersSpec : ChangeSpec := { name := "repairqOrders", fn := fun _ => fun
  | [d1, d2, d3] => { results := [.lit (.bool true)], args := [d1, d2, d3] }
  | _ => none }
def repairqOrdersRow : OpenClaim := { program := "ytgnmolleaengaaagreat", sum := "9f341448b7d59a9233cdb8903b19e00c96783108379a5e75dd5ed21718acbd4c", func := "drydock/drydocklaw34.RepairqOrders", spec := "repairqOrders", inPlace := ["internal/reflectlite.ValueOf", "internal/reflectlite.Swapper", "(internal/reflectlite.Value).Len"], unfollowed := true, recurses := true, apart := false }
def RepairqOrdersSaid : Prop := repairqOrdersRow.holds Tryz.pinned (OpenSpec.ofChange repairqOrdersSpec)

/-- ITS FALSE NEIGHBOUR: 'it returns false'. Refute it at one input. -/
def repairqOrdersWrong : ChangeSpec := { name := "repairqOrders", fn := fun _ => fun
  | [d1, d2, d3] => { results := [.lit (.bool false)], args := [d1, d2, d3] }
  | _ => none }
def RepairqOrdersWrongFalsely : Prop := repairqOrdersRow.holds Tryz.pinned (OpenSpec.ofChange repairqOrdersWrong)

/-- 'drydocklaw34.RepairqValid': WHATEVER THE INPUT: true; the input reads as it did. -/
def repairqValidSpec : ChangeSpec := { name := "repairqValid", fn := fun _ => fun
  | [d1, d2] => { results := [.lit (.bool true)], args := [d1, d2] }
  | _ => none }
def repairqValidRow : OpenClaim := { program := "ytgnmolleaengaaagreat", sum := "9f341448b7d59a9233cdb8903b19e00c96783108379a5e75dd5ed21718acbd4c", func := "drydock/drydocklaw34.RepairqValid", spec := "repairqValid", inPlace := ["internal/reflectlite.ValueOf", "internal/reflectlite.Swapper", "(internal/reflectlite.Value).Len"], unfollowed := true, recurses := true, apart := false }
def RepairqValidSaid : Prop := repairqValidRow.holds Tryz.pinned (OpenSpec.ofChange repairqValidSpec)

/-- ITS FALSE NEIGHBOUR: 'it returns false'. Refute it at one input. -/
def repairqValidWrong : ChangeSpec := { name := "repairqValid", fn := fun _ => fun
  | [d1, d2] => { results := [.lit (.bool false)], args := [d1, d2] }
  | _ => none }
def RepairqValidWrongFalsely : Prop := repairqValidRow.holds Tryz.pinned (OpenSpec.ofChange repairqValidWrong)

/-- 'drydocklaw34.RepairqPlays': WHATEVER THE INPUT: true; the input reads as it did. -/
def repairqPlaysSpec : ChangeSpec := { name := "repairqPlays", fn := fun _ => fun
  | [d1, d2] => { results := [.lit (.bool true)], args := [d1, d2] }
  | _ => none }
def repairqPlaysRow : OpenClaim := { program := "ytgnmolleaengaaagreat", sum := "9f341448b7d59a9233cdb8903b19e00c96783108379a5e75dd5ed21718acbd4c", func := "drydock/drydocklaw34.RepairqPlays", spec := "repairqPlays", inPlace := ["internal/reflectlite.ValueOf", "internal/reflectlite.Swapper", "(internal/reflectlite.Value).Len"], unfollowed := true, recurses := true, apart := false }
def RepairqPlaysSaid : Prop := repairqPlaysRow.holds Tryz.pinned (OpenSpec.ofChange repairqPlaysSpec)

/-- ITS FALSE NEIGHBOUR: 'it returns false'. Refute it at one input. -/
def repairqPlaysWrong : ChangeSpec := { name := "repairqPlays", fn := fun _ => fun
  | [d1, d2] => { results := [.lit (.bool false)], args := [d1, d2] }
  | _ => none }
def RepairqPlaysWrongFalsely : Prop := repairqPlaysRow.holds Tryz.pinned (OpenSpec.ofChange repairqPlaysWrong)

/-- 'drydocklaw34.RepairqUrgent': WHATEVER THE INPUT: true; the input reads as it did. -/
def repairqUrgentSpec : ChangeSpec := { name := "repairqUrgent", fn := fun _ => fun
  | [d1, d2] => { results := [.lit (.bool true)], args := [d1, d2] }
  | _ => none }
def repairqUrgentRow : OpenClaim := { program := "ytgnmolleaengaaagreat", sum := "9f341448b7d59a9233cdb8903b19e00c96783108379a5e75dd5ed21718acbd4c", func := "drydock/drydocklaw34.RepairqUrgent", spec := "repairqUrgent", inPlace := ["internal/reflectlite.ValueOf", "internal/reflectlite.Swapper", "(internal/reflectlite.Value).Len"], unfollowed := true, recurses := true, apart := false }
def RepairqUrgentSaid : Prop := repairqUrgentRow.holds Tryz.pinned (OpenSpec.ofChange repairqUrgentSpec)

/-- ITS FALSE NEIGHBOUR: 'it returns false'. Refute it at one input. -/
def repairqUrgentWrong : ChangeSpec := { name := "repairqUrgent", fn := fun _ => fun
  | [d1, d2] => { results := [.lit (.bool false)], args := [d1, d2] }
  | _ => none }
def RepairqUrgentWrongFalsely : Prop := repairqUrgentRow.holds Tryz.pinned (OpenSpec.ofChange repairqUrgentWrong)

/- THE SECOND FORM. 'bulk': how many values and letters a reading holds, each counted each time it is reached (what is shared counts as often as it is met; a slice's spare places count too). A statement '..UptoSaid' is the law's where the arguments, and the package variables that the reading takes, are together of bulk at most 1048576: NARROWER than '..Said'. Prove '..Said' where nothing that the law and all that it calls make is longer than what came in: it says more and counts as full. Else prove '..UptoSaid'. A law counts once. -/
mutual
def uptoBulk {H : Type} : DataW H → Nat
  | .lit (.string bytes) => bytes.length + 1
  | .lit _ => 1
  | .nil => 1
  | .ptr d => uptoBulk d + 1
  | .slice elems spare => uptoBulkAll elems + uptoBulkAll spare + 1
  | .agg parts => uptoBulkAll parts + 1
  | .iface _ d => uptoBulk d + 1
  | .map entries => uptoBulkEntries entries + 1
  | .held _ => 1
def uptoBulkAll {H : Type} : List (DataW H) → Nat
  | [] => 0
  | d :: r => uptoBulk d + uptoBulkAll r
def uptoBulkEntries {H : Type} : List (Lit × DataW H) → Nat
  | [] => 0
  | x :: r => uptoBulkEntry x + uptoBulkEntries r
def uptoBulkEntry {H : Type} : Lit × DataW H → Nat
  | (.string bytes, d) => bytes.length + uptoBulk d + 1
  | (_, d) => uptoBulk d + 1
 end
def uptoSmall : (H : Type) → List (DataW H) → Bool := fun _ ds => decide (uptoBulkAll ds ≤ 1048576)
def OpenSpec.upto (s : _root_.Go.ChangeSpec) : _root_.Go.OpenSpec := { _root_.Go.OpenSpec.ofChange s with cond := some uptoSmall }

/-- 'drydocklaw34.RepairqOrders', WHERE WHAT IT READS IS OF BULK AT MOST 1048576: true; the input reads as it did. -/
def repairqOrdersUptoRow : OpenClaim := { program := "ytgnmolleaengaaagreat", sum := "9f341448b7d59a9233cdb8903b19e00c96783108379a5e75dd5ed21718acbd4c", func := "drydock/drydocklaw34.RepairqOrders", spec := "repairqOrders", inPlace := ["internal/reflectlite.ValueOf", "internal/reflectlite.Swapper", "(internal/reflectlite.Value).Len"], unfollowed := true, recurses := true, apart := false, narrowed := true }
def RepairqOrdersUptoSaid : Prop := repairqOrdersUptoRow.holds Tryz.pinned (OpenSpec.upto repairqOrdersSpec)

/-- 'drydocklaw34.RepairqValid', WHERE WHAT IT READS IS OF BULK AT MOST 1048576: true; the input reads as it did. -/
def repairqValidUptoRow : OpenClaim := { program := "ytgnmolleaengaaagreat", sum := "9f341448b7d59a9233cdb8903b19e00c96783108379a5e75dd5ed21718acbd4c", func := "drydock/drydocklaw34.RepairqValid", spec := "repairqValid", inPlace := ["internal/reflectlite.ValueOf", "internal/reflectlite.Swapper", "(internal/reflectlite.Value).Len"], unfollowed := true, recurses := true, apart := false, narrowed := true }
def RepairqValidUptoSaid : Prop := repairqValidUptoRow.holds Tryz.pinned (OpenSpec.upto repairqValidSpec)

/-- 'drydocklaw34.RepairqPlays', WHERE WHAT IT READS IS OF BULK AT MOST 1048576: true; the input reads as it did. -/
def repairqPlaysUptoRow : OpenClaim := { program := "ytgnmolleaengaaagreat", sum := "9f341448b7d59a9233cdb8903b19e00c96783108379a5e75dd5ed21718acbd4c", func := "drydock/drydocklaw34.RepairqPlays", spec := "repairqPlays", inPlace := ["internal/reflectlite.ValueOf", "internal/reflectlite.Swapper", "(internal/reflectlite.Value).Len"], unfollowed := true, recurses := true, apart := false, narrowed := true }
def RepairqPlaysUptoSaid : Prop := repairqPlaysUptoRow.holds Tryz.pinned (OpenSpec.upto repairqPlaysSpec)

/-- 'drydocklaw34.RepairqUrgent', WHERE WHAT IT READS IS OF BULK AT MOST 1048576: true; the input reads as it did. -/
def repairqUrgentUptoRow : OpenClaim := { program := "ytgnmolleaengaaagreat", sum := "9f341448b7d59a9233cdb8903b19e00c96783108379a5e75dd5ed21718acbd4c", func := "drydock/drydocklaw34.RepairqUrgent", spec := "repairqUrgent", inPlace := ["internal/reflectlite.ValueOf", "internal/reflectlite.Swapper", "(internal/reflectlite.Value).Len"], unfollowed := true, recurses := true, apart := false, narrowed := true }
def RepairqUrgentUptoSaid : Prop := repairqUrgentUptoRow.holds Tryz.pinned (OpenSpec.upto repairqUrgentSpec)

end Rows
end Go.Proofs.YtgnmolleaengaaaGreat
