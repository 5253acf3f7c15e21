/-
  No cell of these rows narrows 'for every input' (looked for: loops, veiled, ifaces, maps, wideKeys, modest, calm, conditions, laid).
  DERIVED. THE GIVEN ROWS OF THIS SEAT. 7 by the template 'for every input the law returns true; each argument reads behind the call as it read before'; 0 by the template 'total and deterministic' (their statements: YtpkgcklnknbbcaaTotals.lean).
  GIVEN WITH THE SEED: the statements are not yours to turn. If you find one false, say at which input.
  Laid BY PROGRAM, IN A SANDBOX (cutbox-rows.mjs): the forced cells as the released guide's own fill.sh prints them over the translation b6ad43fec90e43bf… (all of the seat's roots in one cut). By AI agents, Wed Nov 11 2026. No macro, syntax, notation, axiom, sorry.
-/
import Derived.Test.YtpkgcklnknbbcaaChecked
import GoSem.Claim
import GoSem.ClaimJoined
import GoSem.ClaimMapViews
import Derived.JoinedTies
import Derived.KernelRfl
namespace Go.Proofs.Ytpkgcklnknbbcaa
/- THE CELL 'sum', in the pinned program and in every row, IS THE sha256 OF THE DUMP (.gsa) THAT YtpkgcklnknbbcaaProg.lean LOADS. Nothing in Lean hashes anything: it is a label: what it is worth is what the hold of that sum in a sandbox is worth. -/
noncomputable def Try.pinned : Pinned := { name := "ytpkgcklnknbbcaa", sum := "b6ad43fec90e43bf43dd6d7b384abd6f0f81c6d41467eb7c98965b177a081aad", checked := Try.checked }
namespace Rows
def none {H : Type} : Left H := { results := [], args := [] }

/-- 'drydocklaw33.MoveBegins': WHATEVER THE INPUT: true; the input reads as it did. -/
def moveBeginsSpec : ChangeSpec := { name := "moveBegins", fn := fun _ => fun
  | [d1, d2] => { results := [.lit (.bool true)], args := [d1, d2] }
  | _ => none }
def moveBeginsRow : OpenClaim := { program := "ytpkgcklnknbbcaa", sum := "b6ad43fec90e43bf43dd6d7b384abd6f0f81c6d41467eb7c98965b177a081aad", func := "drydock/drydocklaw33.MoveBegins", spec := "moveBegins", apart := false }
def MoveBeginsSaid : Prop := moveBeginsRow.holds Try.pinned (OpenSpec.ofChange moveBeginsSpec)

/-- ITS FALSE NEIGHBOUR: 'it returns false'. Refute it at one input. -/
def moveBeginsWrong : ChangeSpec := { name := "moveBegins", fn := fun _ => fun
  | [d1, d2] => { results := [.lit (.bool false)], args := [d1, d2] }
  | _ => none }
def MoveBeginsWrongFalsely : Prop := moveBeginsRow.holds Try.pinned (OpenSpec.ofChange moveBeginsWrong)

/-- 'drydocklaw33.MoveApplies': WHATEVER THE INPUT: true; the input reads as it did. -/
def moveAppliesSpec : ChangeSpec := { name := "moveApplies", fn := fun _ => fun
  | [d1, d2] => { results := [.lit (.bool true)], args := [d1, d2] }
  | _ => none }
def moveAppliesRow : OpenClaim := { program := "ytpkgcklnknbbcaa", sum := "b6ad43fec90e43bf43dd6d7b384abd6f0f81c6d41467eb7c98965b177a081aad", func := "drydock/drydocklaw33.MoveApplies", spec := "moveApplies", apart := false }
def MoveAppliesSaid : Prop := moveAppliesRow.holds Try.pinned (OpenSpec.ofChange moveAppliesSpec)

/-- ITS FALSE NEIGHBOUR: 'it returns false'. Refute it at one input. -/
def moveAppliesWrong : ChangeSpec := { name := "moveApplies", fn := fun _ => fun
  | [d1, d2] => { results := [.lit (.bool false)], args := [d1, d2] }
  | _ => none }
def MoveAppliesWrongFalsely : Prop := moveAppliesRow.holds Try.pinned (OpenSpec.ofChange moveAppliesWrong)

/-- 'drydocklaw33.MovePlays': WHATEVER THE INPUT: true; the input reads as it did. -/
def movePlaysSpec : ChangeSpec := { name := "movePlays", fn := fun _ => fun
  | [d1, d2, d3] => { results := [.lit (.bool true)], args := [d1, d2, d3] }
  | _ => none }
def movePlaysRow : OpenClaim := { program := "ytpkgcklnknbbcaa", sum := "b6ad43fec90e43bf43dd6d7b384abd6f0f81c6d41467eb7c98965b177a081aad", func := "drydock/drydocklaw33.MovePlays", spec := "movePlays", apart := false }
def MovePlaysSaid : Prop := movePlaysRow.holds Try.pinned (OpenSpec.ofChange movePlaysSpec)

/-- ITS FALSE NEIGHBOUR: 'it returns false'. Refute it at one input. -/
def movePlaysWrong : ChangeSpec := { name := "movePlays", fn := fun _ => fun
  | [d1, d2, d3] => { results := [.lit (.bool false)], args := [d1, d2, d3] }
  | _ => none }
def MovePlaysWrongFalsely : Prop := movePlaysRow.holds Try.pinned (OpenSpec.ofChange movePlaysWrong)

/-- 'drydocklaw33.MoveStays': WHATEVER THE INPUT: true; the input reads as it did. -/
def moveStaysSpec : ChangeSpec := { name := "moveStays", fn := fun _ => fun
  | [d1, d2] => { results := [.lit (.bool true)], args := [d1, d2] }
  | _ => none }
def moveStaysRow : OpenClaim := { program := "ytpkgcklnknbbcaa", sum := "b6ad43fec90e43bf43dd6d7b384abd6f0f81c6d41467eb7c98965b177a081aad", func := "drydock/drydocklaw33.MoveStays", spec := "moveStays", apart := false }
def MoveStaysSaid : Prop := moveStaysRow.holds Try.pinned (OpenSpec.ofChange moveStaysSpec)

/-- ITS FALSE NEIGHBOUR: 'it returns false'. Refute it at one input. -/
def moveStaysWrong : ChangeSpec := { name := "moveStays", fn := fun _ => fun
  | [d1, d2] => { results := [.lit (.bool false)], args := [d1, d2] }
  | _ => none }
def MoveStaysWrongFalsely : Prop := moveStaysRow.holds Try.pinned (OpenSpec.ofChange moveStaysWrong)

/-- 'drydocklaw33.MoveKeeps': WHATEVER THE INPUT: true; the input reads as it did. -/
def moveKeepsSpec : ChangeSpec := { name := "moveKeeps", fn := fun _ => fun
  | [d] => { results := [.lit (.bool true)], args := [d] }
  | _ => none }
def moveKeepsRow : OpenClaim := { program := "ytpkgcklnknbbcaa", sum := "b6ad43fec90e43bf43dd6d7b384abd6f0f81c6d41467eb7c98965b177a081aad", func := "drydock/drydocklaw33.MoveKeeps", spec := "moveKeeps", apart := false }
def MoveKeepsSaid : Prop := moveKeepsRow.holds Try.pinned (OpenSpec.ofChange moveKeepsSpec)

/-- ITS FALSE NEIGHBOUR: 'it returns false'. Refute it at one input. -/
def moveKeepsWrong : ChangeSpec := { name := "moveKeeps", fn := fun _ => fun
  | [d] => { results := [.lit (.bool false)], args := [d] }
  | _ => none }
def MoveKeepsWrongFalsely : Prop := moveKeepsRow.holds Try.pinned (OpenSpec.ofChange moveKeepsWrong)

/-- 'drydocklaw33.MoveEnds': WHATEVER THE INPUT: true; the input reads as it did. -/
def moveEndsSpec : ChangeSpec := { name := "moveEnds", fn := fun _ => fun
  | [d1, d2] => { results := [.lit (.bool true)], args := [d1, d2] }
  | _ => none }
def moveEndsRow : OpenClaim := { program := "ytpkgcklnknbbcaa", sum := "b6ad43fec90e43bf43dd6d7b384abd6f0f81c6d41467eb7c98965b177a081aad", func := "drydock/drydocklaw33.MoveEnds", spec := "moveEnds", apart := false }
def MoveEndsSaid : Prop := moveEndsRow.holds Try.pinned (OpenSpec.ofChange moveEndsSpec)

/-- ITS FALSE NEIGHBOUR: 'it returns false'. Refute it at one input. -/
def moveEndsWrong : ChangeSpec := { name := "moveEnds", fn := fun _ => fun
  | [d1, d2] => { results := [.lit (.bool false)], args := [d1, d2] }
  | _ => none }
def MoveEndsWrongFalsely : Prop := moveEndsRow.holds Try.pinned (OpenSpec.ofChange moveEndsWrong)

/-- 'drydocklaw33.MoveDirties': WHATEVER THE INPUT: true; the input reads as it did. -/
def moveDirtiesSpec : ChangeSpec := { name := "moveDirties", fn := fun _ => fun
  | [d1, d2] => { results := [.lit (.bool true)], args := [d1, d2] }
  | _ => none }
def moveDirtiesRow : OpenClaim := { program := "ytpkgcklnknbbcaa", sum := "b6ad43fec90e43bf43dd6d7b384abd6f0f81c6d41467eb7c98965b177a081aad", func := "drydock/drydocklaw33.MoveDirties", spec := "moveDirties", apart := false }
def MoveDirtiesSaid : Prop := moveDirtiesRow.holds Try.pinned (OpenSpec.ofChange moveDirtiesSpec)

/-- ITS FALSE NEIGHBOUR: 'it returns false'. Refute it at one input. -/
def moveDirtiesWrong : ChangeSpec := { name := "moveDirties", fn := fun _ => fun
  | [d1, d2] => { results := [.lit (.bool false)], args := [d1, d2] }
  | _ => none }
def MoveDirtiesWrongFalsely : Prop := moveDirtiesRow.holds Try.pinned (OpenSpec.ofChange moveDirtiesWrong)

/- THE SECOND FORM. 'bulk': how many values and letters a reading holds, each counted each time it is reached (what is shared counts as often as it is met; a slice's spare places count too). A statement '..UptoSaid' is the law's where the arguments, and the package variables that the reading takes, are together of bulk at most 1048576: NARROWER than '..Said'. Prove '..Said' where nothing that the law and all that it calls make is longer than what came in: it says more and counts as full. Else prove '..UptoSaid'. A law counts once. -/
mutual
def uptoBulk {H : Type} : DataW H → Nat
  | .lit (.string bytes) => bytes.length + 1
  | .lit _ => 1
  | .nil => 1
  | .ptr d => uptoBulk d + 1
  | .slice elems spare => uptoBulkAll elems + uptoBulkAll spare + 1
  | .agg parts => uptoBulkAll parts + 1
  | .iface _ d => uptoBulk d + 1
  | .map entries => uptoBulkEntries entries + 1
  | .held _ => 1
def uptoBulkAll {H : Type} : List (DataW H) → Nat
  | [] => 0
  | d :: r => uptoBulk d + uptoBulkAll r
def uptoBulkEntries {H : Type} : List (Lit × DataW H) → Nat
  | [] => 0
  | x :: r => uptoBulkEntry x + uptoBulkEntries r
def uptoBulkEntry {H : Type} : Lit × DataW H → Nat
  | (.string bytes, d) => bytes.length + uptoBulk d + 1
  | (_, d) => uptoBulk d + 1
 end
def uptoSmall : (H : Type) → List (DataW H) → Bool := fun _ ds => decide (uptoBulkAll ds ≤ 1048576)
def OpenSpec.upto (s : _root_.Go.ChangeSpec) : _root_.Go.OpenSpec := { _root_.Go.OpenSpec.ofChange s with cond := some uptoSmall }

/-- 'drydocklaw33.MoveBegins', WHERE WHAT IT READS IS OF BULK AT MOST 1048576: true; the input reads as it did. -/
def moveBeginsUptoRow : OpenClaim := { program := "ytpkgcklnknbbcaa", sum := "b6ad43fec90e43bf43dd6d7b384abd6f0f81c6d41467eb7c98965b177a081aad", func := "drydock/drydocklaw33.MoveBegins", spec := "moveBegins", apart := false, narrowed := true }
def MoveBeginsUptoSaid : Prop := moveBeginsUptoRow.holds Try.pinned (OpenSpec.upto moveBeginsSpec)

/-- 'drydocklaw33.MoveApplies', WHERE WHAT IT READS IS OF BULK AT MOST 1048576: true; the input reads as it did. -/
def moveAppliesUptoRow : OpenClaim := { program := "ytpkgcklnknbbcaa", sum := "b6ad43fec90e43bf43dd6d7b384abd6f0f81c6d41467eb7c98965b177a081aad", func := "drydock/drydocklaw33.MoveApplies", spec := "moveApplies", apart := false, narrowed := true }
def MoveAppliesUptoSaid : Prop := moveAppliesUptoRow.holds Try.pinned (OpenSpec.upto moveAppliesSpec)

/-- 'drydocklaw33.MovePlays', WHERE WHAT IT READS IS OF BULK AT MOST 1048576: true; the input reads as it did. -/
def movePlaysUptoRow : OpenClaim := { program := "ytpkgcklnknbbcaa", sum := "b6ad43fec90e43bf43dd6d7b384abd6f0f81c6d41467eb7c98965b177a081aad", func := "drydock/drydocklaw33.MovePlays", spec := "movePlays", apart := false, narrowed := true }
def MovePlaysUptoSaid : Prop := movePlaysUptoRow.holds Try.pinned (OpenSpec.upto movePlaysSpec)

/-- 'drydocklaw33.MoveStays', WHERE WHAT IT READS IS OF BULK AT MOST 1048576: true; the input reads as it did. -/
def moveStaysUptoRow : OpenClaim := { program := "ytpkgcklnknbbcaa", sum := "b6ad43fec90e43bf43dd6d7b384abd6f0f81c6d41467eb7c98965b177a081aad", func := "drydock/drydocklaw33.MoveStays", spec := "moveStays", apart := false, narrowed := true }
def MoveStaysUptoSaid : Prop := moveStaysUptoRow.holds Try.pinned (OpenSpec.upto moveStaysSpec)

/-- 'drydocklaw33.MoveKeeps', WHERE WHAT IT READS IS OF BULK AT MOST 1048576: true; the input reads as it did. -/
def moveKeepsUptoRow : OpenClaim := { program := "ytpkgcklnknbbcaa", sum := "b6ad43fec90e43bf43dd6d7b384abd6f0f81c6d41467eb7c98965b177a081aad", func := "drydock/drydocklaw33.MoveKeeps", spec := "moveKeeps", apart := false, narrowed := true }
def MoveKeepsUptoSaid : Prop := moveKeepsUptoRow.holds Try.pinned (OpenSpec.upto moveKeepsSpec)

/-- 'drydocklaw33.MoveEnds', WHERE WHAT IT READS IS OF BULK AT MOST 1048576: true; the input reads as it did. -/
def moveEndsUptoRow : OpenClaim := { program := "ytpkgcklnknbbcaa", sum := "b6ad43fec90e43bf43dd6d7b384abd6f0f81c6d41467eb7c98965b177a081aad", func := "drydock/drydocklaw33.MoveEnds", spec := "moveEnds", apart := false, narrowed := true }
def MoveEndsUptoSaid : Prop := moveEndsUptoRow.holds Try.pinned (OpenSpec.upto moveEndsSpec)

/-- 'drydocklaw33.MoveDirties', WHERE WHAT IT READS IS OF BULK AT MOST 1048576: true; the input reads as it did. -/
def moveDirtiesUptoRow : OpenClaim := { program := "ytpkgcklnknbbcaa", sum := "b6ad43fec90e43bf43dd6d7b384abd6f0f81c6d41467eb7c98965b177a081aad", func := "drydock/drydocklaw33.MoveDirties", spec := "moveDirties", apart := false, narrowed := true }
def MoveDirtiesUptoSaid : Prop := moveDirtiesUptoRow.holds Try.pinned (OpenSpec.upto moveDirtiesSpec)

end Rows
end Go.Proofs.Ytpkgcklnknbbcaa
