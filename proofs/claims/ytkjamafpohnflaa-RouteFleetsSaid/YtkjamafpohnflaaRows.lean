/-
  No cell of these rows narrows 'for every input' (looked for: loops, veiled, ifaces, maps, wideKeys, modest, calm, conditions, laid).
  DERIVED. THE GIVEN ROWS OF THIS SEAT. 6 by the template 'for every input the law returns true; each argument reads behind the call as it read before'; 0 by the template 'total and deterministic' (their statements: YtkjamafpohnflaaTotals.lean).
  GIVEN WITH THE SEED: the statements are not yours to turn. If you find one false, say at which input.
  Laid BY PROGRAM, IN A SANDBOX (cutbox-rows.mjs): the forced cells as the released guide's own fill.sh prints them over the translation 06bdad7af5b45572… (all of the seat's roots in one cut). By AI agents, Wed Nov 11 2026. No macro, syntax, notation, axiom, sorry.
-/
import Derived.Test.YtkjamafpohnflaaChecked
import GoSem.Claim
import GoSem.ClaimJoined
import GoSem.ClaimMapViews
import Derived.JoinedTies
import Derived.KernelRfl
namespace Go.Proofs.Ytkjamafpohnflaa
/- THE CELL 'sum', in the pinned program and in every row, IS THE sha256 OF THE DUMP (.gsa) THAT YtkjamafpohnflaaProg.lean LOADS. Nothing in Lean hashes anything: it is a label: what it is worth is what the hold of that sum in a sandbox is worth. -/
noncomputable def Try.pinned : Pinned := { name := "ytkjamafpohnflaa", sum := "06bdad7af5b45572eb7b0fa839273c6f6a576cf2b1df48b61904a820eaea4c9b", checked := Try.checked }
namespace Rows
def none {H : Type} : Left H := { results := [], args := [] }

/-- 'drydocklaw30.RouteTriangles': WHATEVER THE INPUT: true; the input reads as it did. -/
def routeTrianglesSpec : ChangeSpec := { name := "routeTriangles", fn := fun _ => fun
  | [d1, d2, d3, d4] => { results := [.lit (.bool true)], args := [d1, d2, d3, d4] }
  | _ => none }
def routeTrianglesRow : OpenClaim := { program := "ytkjamafpohnflaa", sum := "06bdad7af5b45572eb7b0fa839273c6f6a576cf2b1df48b61904a820eaea4c9b", func := "drydock/drydocklaw30.RouteTriangles", spec := "routeTriangles", unfollowed := true, recurses := true, apart := false }
def RouteTrianglesSaid : Prop := routeTrianglesRow.holds Try.pinned (OpenSpec.ofChange routeTrianglesSpec)

/-- ITS FALSE NEIGHBOUR: 'it returns false'. Refute it at one input. -/
def routeTrianglesWrong : ChangeSpec := { name := "routeTriangles", fn := fun _ => fun
  | [d1, d2, d3, d4] => { results := [.lit (.bool false)], args := [d1, d2, d3, d4] }
  | _ => none }
def RouteTrianglesWrongFalsely : Prop := routeTrianglesRow.holds Try.pinned (OpenSpec.ofChange routeTrianglesWrong)

/-- 'drydocklaw30.RouteClimbs': WHATEVER THE INPUT: true; the input reads as it did. -/
def routeClimbsSpec : ChangeSpec := { name := "routeClimbs", fn := fun _ => fun
  | [d1, d2, d3] => { results := [.lit (.bool true)], args := [d1, d2, d3] }
  | _ => none }
def routeClimbsRow : OpenClaim := { program := "ytkjamafpohnflaa", sum := "06bdad7af5b45572eb7b0fa839273c6f6a576cf2b1df48b61904a820eaea4c9b", func := "drydock/drydocklaw30.RouteClimbs", spec := "routeClimbs", unfollowed := true, recurses := true, apart := false }
def RouteClimbsSaid : Prop := routeClimbsRow.holds Try.pinned (OpenSpec.ofChange routeClimbsSpec)

/-- ITS FALSE NEIGHBOUR: 'it returns false'. Refute it at one input. -/
def routeClimbsWrong : ChangeSpec := { name := "routeClimbs", fn := fun _ => fun
  | [d1, d2, d3] => { results := [.lit (.bool false)], args := [d1, d2, d3] }
  | _ => none }
def RouteClimbsWrongFalsely : Prop := routeClimbsRow.holds Try.pinned (OpenSpec.ofChange routeClimbsWrong)

/-- 'drydocklaw30.RouteSeparates': WHATEVER THE INPUT: true; the input reads as it did. -/
def routeSeparatesSpec : ChangeSpec := { name := "routeSeparates", fn := fun _ => fun
  | [d1, d2, d3, d4] => { results := [.lit (.bool true)], args := [d1, d2, d3, d4] }
  | _ => none }
def routeSeparatesRow : OpenClaim := { program := "ytkjamafpohnflaa", sum := "06bdad7af5b45572eb7b0fa839273c6f6a576cf2b1df48b61904a820eaea4c9b", func := "drydock/drydocklaw30.RouteSeparates", spec := "routeSeparates", unfollowed := true, recurses := true, apart := false }
def RouteSeparatesSaid : Prop := routeSeparatesRow.holds Try.pinned (OpenSpec.ofChange routeSeparatesSpec)

/-- ITS FALSE NEIGHBOUR: 'it returns false'. Refute it at one input. -/
def routeSeparatesWrong : ChangeSpec := { name := "routeSeparates", fn := fun _ => fun
  | [d1, d2, d3, d4] => { results := [.lit (.bool false)], args := [d1, d2, d3, d4] }
  | _ => none }
def RouteSeparatesWrongFalsely : Prop := routeSeparatesRow.holds Try.pinned (OpenSpec.ofChange routeSeparatesWrong)

/-- 'drydocklaw30.RouteFleets': WHATEVER THE INPUT: true; the input reads as it did. -/
def routeFleetsSpec : ChangeSpec := { name := "routeFleets", fn := fun _ => fun
  | [d] => { results := [.lit (.bool true)], args := [d] }
  | _ => none }
def routeFleetsRow : OpenClaim := { program := "ytkjamafpohnflaa", sum := "06bdad7af5b45572eb7b0fa839273c6f6a576cf2b1df48b61904a820eaea4c9b", func := "drydock/drydocklaw30.RouteFleets", spec := "routeFleets", unfollowed := true, recurses := true, apart := false }
def RouteFleetsSaid : Prop := routeFleetsRow.holds Try.pinned (OpenSpec.ofChange routeFleetsSpec)

/-- ITS FALSE NEIGHBOUR: 'it returns false'. Refute it at one input. -/
def routeFleetsWrong : ChangeSpec := { name := "routeFleets", fn := fun _ => fun
  | [d] => { results := [.lit (.bool false)], args := [d] }
  | _ => none }
def RouteFleetsWrongFalsely : Prop := routeFleetsRow.holds Try.pinned (OpenSpec.ofChange routeFleetsWrong)

/-- 'drydocklaw30.RouteFinds': WHATEVER THE INPUT: true; the input reads as it did. -/
def routeFindsSpec : ChangeSpec := { name := "routeFinds", fn := fun _ => fun
  | [d1, d2, d3, d4, d5, d6, d7] => { results := [.lit (.bool true)], args := [d1, d2, d3, d4, d5, d6, d7] }
  | _ => none }
def routeFindsRow : OpenClaim := { program := "ytkjamafpohnflaa", sum := "06bdad7af5b45572eb7b0fa839273c6f6a576cf2b1df48b61904a820eaea4c9b", func := "drydock/drydocklaw30.RouteFinds", spec := "routeFinds", unfollowed := true, recurses := true, apart := false }
def RouteFindsSaid : Prop := routeFindsRow.holds Try.pinned (OpenSpec.ofChange routeFindsSpec)

/-- ITS FALSE NEIGHBOUR: 'it returns false'. Refute it at one input. -/
def routeFindsWrong : ChangeSpec := { name := "routeFinds", fn := fun _ => fun
  | [d1, d2, d3, d4, d5, d6, d7] => { results := [.lit (.bool false)], args := [d1, d2, d3, d4, d5, d6, d7] }
  | _ => none }
def RouteFindsWrongFalsely : Prop := routeFindsRow.holds Try.pinned (OpenSpec.ofChange routeFindsWrong)

/-- 'drydocklaw30.RouteLoads': WHATEVER THE INPUT: true; the input reads as it did. -/
def routeLoadsSpec : ChangeSpec := { name := "routeLoads", fn := fun _ => fun
  | [d1, d2, d3, d4] => { results := [.lit (.bool true)], args := [d1, d2, d3, d4] }
  | _ => none }
def routeLoadsRow : OpenClaim := { program := "ytkjamafpohnflaa", sum := "06bdad7af5b45572eb7b0fa839273c6f6a576cf2b1df48b61904a820eaea4c9b", func := "drydock/drydocklaw30.RouteLoads", spec := "routeLoads", unfollowed := true, recurses := true, apart := false }
def RouteLoadsSaid : Prop := routeLoadsRow.holds Try.pinned (OpenSpec.ofChange routeLoadsSpec)

/-- ITS FALSE NEIGHBOUR: 'it returns false'. Refute it at one input. -/
def routeLoadsWrong : ChangeSpec := { name := "routeLoads", fn := fun _ => fun
  | [d1, d2, d3, d4] => { results := [.lit (.bool false)], args := [d1, d2, d3, d4] }
  | _ => none }
def RouteLoadsWrongFalsely : Prop := routeLoadsRow.holds Try.pinned (OpenSpec.ofChange routeLoadsWrong)

/- THE SECOND FORM. 'bulk': how many values and letters a reading holds, each counted each time it is reached (what is shared counts as often as it is met; a slice's spare places count too). A statement '..UptoSaid' is the law's where the arguments, and the package variables that the reading takes, are together of bulk at most 1048576: NARROWER than '..Said'. Prove '..Said' where nothing that the law and all that it calls make is longer than what came in: it says more and counts as full. Else prove '..UptoSaid'. A law counts once. -/
mutual
def uptoBulk {H : Type} : DataW H → Nat
  | .lit (.string bytes) => bytes.length + 1
  | .lit _ => 1
  | .nil => 1
  | .ptr d => uptoBulk d + 1
  | .slice elems spare => uptoBulkAll elems + uptoBulkAll spare + 1
  | .agg parts => uptoBulkAll parts + 1
  | .iface _ d => uptoBulk d + 1
  | .map entries => uptoBulkEntries entries + 1
  | .held _ => 1
def uptoBulkAll {H : Type} : List (DataW H) → Nat
  | [] => 0
  | d :: r => uptoBulk d + uptoBulkAll r
def uptoBulkEntries {H : Type} : List (Lit × DataW H) → Nat
  | [] => 0
  | x :: r => uptoBulkEntry x + uptoBulkEntries r
def uptoBulkEntry {H : Type} : Lit × DataW H → Nat
  | (.string bytes, d) => bytes.length + uptoBulk d + 1
  | (_, d) => uptoBulk d + 1
 end
def uptoSmall : (H : Type) → List (DataW H) → Bool := fun _ ds => decide (uptoBulkAll ds ≤ 1048576)
def OpenSpec.upto (s : _root_.Go.ChangeSpec) : _root_.Go.OpenSpec := { _root_.Go.OpenSpec.ofChange s with cond := some uptoSmall }

/-- 'drydocklaw30.RouteTriangles', WHERE WHAT IT READS IS OF BULK AT MOST 1048576: true; the input reads as it did. -/
def routeTrianglesUptoRow : OpenClaim := { program := "ytkjamafpohnflaa", sum := "06bdad7af5b45572eb7b0fa839273c6f6a576cf2b1df48b61904a820eaea4c9b", func := "drydock/drydocklaw30.RouteTriangles", spec := "routeTriangles", unfollowed := true, recurses := true, apart := false, narrowed := true }
def RouteTrianglesUptoSaid : Prop := routeTrianglesUptoRow.holds Try.pinned (OpenSpec.upto routeTrianglesSpec)

/-- 'drydocklaw30.RouteClimbs', WHERE WHAT IT READS IS OF BULK AT MOST 1048576: true; the input reads as it did. -/
def routeClimbsUptoRow : OpenClaim := { program := "ytkjamafpohnflaa", sum := "06bdad7af5b45572eb7b0fa839273c6f6a576cf2b1df48b61904a820eaea4c9b", func := "drydock/drydocklaw30.RouteClimbs", spec := "routeClimbs", unfollowed := true, recurses := true, apart := false, narrowed := true }
def RouteClimbsUptoSaid : Prop := routeClimbsUptoRow.holds Try.pinned (OpenSpec.upto routeClimbsSpec)

/-- 'drydocklaw30.RouteSeparates', WHERE WHAT IT READS IS OF BULK AT MOST 1048576: true; the input reads as it did. -/
def routeSeparatesUptoRow : OpenClaim := { program := "ytkjamafpohnflaa", sum := "06bdad7af5b45572eb7b0fa839273c6f6a576cf2b1df48b61904a820eaea4c9b", func := "drydock/drydocklaw30.RouteSeparates", spec := "routeSeparates", unfollowed := true, recurses := true, apart := false, narrowed := true }
def RouteSeparatesUptoSaid : Prop := routeSeparatesUptoRow.holds Try.pinned (OpenSpec.upto routeSeparatesSpec)

/-- 'drydocklaw30.RouteFleets', WHERE WHAT IT READS IS OF BULK AT MOST 1048576: true; the input reads as it did. -/
def routeFleetsUptoRow : OpenClaim := { program := "ytkjamafpohnflaa", sum := "06bdad7af5b45572eb7b0fa839273c6f6a576cf2b1df48b61904a820eaea4c9b", func := "drydock/drydocklaw30.RouteFleets", spec := "routeFleets", unfollowed := true, recurses := true, apart := false, narrowed := true }
def RouteFleetsUptoSaid : Prop := routeFleetsUptoRow.holds Try.pinned (OpenSpec.upto routeFleetsSpec)

/-- 'drydocklaw30.RouteFinds', WHERE WHAT IT READS IS OF BULK AT MOST 1048576: true; the input reads as it did. -/
def routeFindsUptoRow : OpenClaim := { program := "ytkjamafpohnflaa", sum := "06bdad7af5b45572eb7b0fa839273c6f6a576cf2b1df48b61904a820eaea4c9b", func := "drydock/drydocklaw30.RouteFinds", spec := "routeFinds", unfollowed := true, recurses := true, apart := false, narrowed := true }
def RouteFindsUptoSaid : Prop := routeFindsUptoRow.holds Try.pinned (OpenSpec.upto routeFindsSpec)

/-- 'drydocklaw30.RouteLoads', WHERE WHAT IT READS IS OF BULK AT MOST 1048576: true; the input reads as it did. -/
def routeLoadsUptoRow : OpenClaim := { program := "ytkjamafpohnflaa", sum := "06bdad7af5b45572eb7b0fa839273c6f6a576cf2b1df48b61904a820eaea4c9b", func := "drydock/drydocklaw30.RouteLoads", spec := "routeLoads", unfollowed := true, recurses := true, apart := false, narrowed := true }
def RouteLoadsUptoSaid : Prop := routeLoadsUptoRow.holds Try.pinned (OpenSpec.upto routeLoadsSpec)

end Rows
end Go.Proofs.Ytkjamafpohnflaa
