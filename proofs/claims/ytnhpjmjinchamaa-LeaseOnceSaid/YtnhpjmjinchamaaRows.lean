/-
  No cell of these rows narrows 'for every input' (looked for: loops, veiled, ifaces, maps, wideKeys, modest, calm, conditions, laid).
  DERIVED. THE GIVEN ROWS OF THIS SEAT. 7 by the template 'for every input the law returns true; each argument reads behind the call as it read before'; 0 by the template 'total and deterministic' (their statements: YtnhpjmjinchamaaTotals.lean).
  GIVEN WITH THE SEED: the statements are not yours to turn. If you find one false, say at which input.
  Laid BY PROGRAM, IN A SANDBOX (cutbox-rows.mjs): the forced cells as the released guide's own fill.sh prints them over the translation 22428cd520abbc02… (all of the seat's roots in one cut). By AI agents, Wed Nov 11 2026. No macro, syntax, notation, axiom, sorry.
-/
import Derived.Test.YtnhpjmjinchamaaChecked
import GoSem.Claim
import GoSem.ClaimJoined
import GoSem.ClaimMapViews
import Derived.JoinedTies
import Derived.KernelRfl
namespace Go.Proofs.Ytnhpjmjinchamaa
/- THE CELL 'sum', in the pinned program and in every row, IS THE sha256 OF THE DUMP (.gsa) THAT YtnhpjmjinchamaaProg.lean LOADS. Nothing in Lean hashes anything: it is a label: what it is worth is what the hold of that sum in a sandbox is worth. -/
noncomputable def Try.pinned : Pinned := { name := "ytnhpjmjinchamaa", sum := "22428cd520abbc02a87f851b8b8d15e7f6a74cd2401989065c03bec4c1cec259", checked := Try.checked }
namespace Rows
def none {H : Type} : Left H := { results := [], args := [] }

/-- 'drydocklaw28.LeaseVersions': WHATEVER THE INPUT: true; the input reads as it did. -/
def leaseVersionsSpec : ChangeSpec := { name := "leaseVersions", fn := fun _ => fun
  | [d] => { results := [.lit (.bool true)], args := [d] }
  | _ => none }
def leaseVersionsRow : OpenClaim := { program := "ytnhpjmjinchamaa", sum := "22428cd520abbc02a87f851b8b8d15e7f6a74cd2401989065c03bec4c1cec259", func := "drydock/drydocklaw28.LeaseVersions", spec := "leaseVersions", plainKeys := false, apart := false }
def LeaseVersionsSaid : Prop := leaseVersionsRow.holds Try.pinned (OpenSpec.ofChange leaseVersionsSpec)

/-- ITS FALSE NEIGHBOUR: 'it returns false'. Refute it at one input. -/
def leaseVersionsWrong : ChangeSpec := { name := "leaseVersions", fn := fun _ => fun
  | [d] => { results := [.lit (.bool false)], args := [d] }
  | _ => none }
def LeaseVersionsWrongFalsely : Prop := leaseVersionsRow.holds Try.pinned (OpenSpec.ofChange leaseVersionsWrong)

/-- 'drydocklaw28.LeaseEnds': WHATEVER THE INPUT: true; the input reads as it did. -/
def leaseEndsSpec : ChangeSpec := { name := "leaseEnds", fn := fun _ => fun
  | [d1, d2, d3, d4, d5] => { results := [.lit (.bool true)], args := [d1, d2, d3, d4, d5] }
  | _ => none }
def leaseEndsRow : OpenClaim := { program := "ytnhpjmjinchamaa", sum := "22428cd520abbc02a87f851b8b8d15e7f6a74cd2401989065c03bec4c1cec259", func := "drydock/drydocklaw28.LeaseEnds", spec := "leaseEnds", plainKeys := false, apart := false }
def LeaseEndsSaid : Prop := leaseEndsRow.holds Try.pinned (OpenSpec.ofChange leaseEndsSpec)

/-- ITS FALSE NEIGHBOUR: 'it returns false'. Refute it at one input. -/
def leaseEndsWrong : ChangeSpec := { name := "leaseEnds", fn := fun _ => fun
  | [d1, d2, d3, d4, d5] => { results := [.lit (.bool false)], args := [d1, d2, d3, d4, d5] }
  | _ => none }
def LeaseEndsWrongFalsely : Prop := leaseEndsRow.holds Try.pinned (OpenSpec.ofChange leaseEndsWrong)

/-- 'drydocklaw28.LeaseFree': WHATEVER THE INPUT: true; the input reads as it did. -/
def leaseFreeSpec : ChangeSpec := { name := "leaseFree", fn := fun _ => fun
  | [d1, d2, d3, d4, d5] => { results := [.lit (.bool true)], args := [d1, d2, d3, d4, d5] }
  | _ => none }
def leaseFreeRow : OpenClaim := { program := "ytnhpjmjinchamaa", sum := "22428cd520abbc02a87f851b8b8d15e7f6a74cd2401989065c03bec4c1cec259", func := "drydock/drydocklaw28.LeaseFree", spec := "leaseFree", plainKeys := false, apart := false }
def LeaseFreeSaid : Prop := leaseFreeRow.holds Try.pinned (OpenSpec.ofChange leaseFreeSpec)

/-- ITS FALSE NEIGHBOUR: 'it returns false'. Refute it at one input. -/
def leaseFreeWrong : ChangeSpec := { name := "leaseFree", fn := fun _ => fun
  | [d1, d2, d3, d4, d5] => { results := [.lit (.bool false)], args := [d1, d2, d3, d4, d5] }
  | _ => none }
def LeaseFreeWrongFalsely : Prop := leaseFreeRow.holds Try.pinned (OpenSpec.ofChange leaseFreeWrong)

/-- 'drydocklaw28.LeaseOnce': WHATEVER THE INPUT: true; the input reads as it did. -/
def leaseOnceSpec : ChangeSpec := { name := "leaseOnce", fn := fun _ => fun
  | [d] => { results := [.lit (.bool true)], args := [d] }
  | _ => none }
def leaseOnceRow : OpenClaim := { program := "ytnhpjmjinchamaa", sum := "22428cd520abbc02a87f851b8b8d15e7f6a74cd2401989065c03bec4c1cec259", func := "drydock/drydocklaw28.LeaseOnce", spec := "leaseOnce", inPlace := ["internal/reflectlite.ValueOf", "internal/reflectlite.Swapper", "(internal/reflectlite.Value).Len"], unfollowed := true, recurses := true, plainKeys := false, apart := false }
def LeaseOnceSaid : Prop := leaseOnceRow.holds Try.pinned (OpenSpec.ofChange leaseOnceSpec)

/-- ITS FALSE NEIGHBOUR: 'it returns false'. Refute it at one input. -/
def leaseOnceWrong : ChangeSpec := { name := "leaseOnce", fn := fun _ => fun
  | [d] => { results := [.lit (.bool false)], args := [d] }
  | _ => none }
def LeaseOnceWrongFalsely : Prop := leaseOnceRow.holds Try.pinned (OpenSpec.ofChange leaseOnceWrong)

/-- 'drydocklaw28.LeasePlays': WHATEVER THE INPUT: true; the input reads as it did. -/
def leasePlaysSpec : ChangeSpec := { name := "leasePlays", fn := fun _ => fun
  | [d1, d2] => { results := [.lit (.bool true)], args := [d1, d2] }
  | _ => none }
def leasePlaysRow : OpenClaim := { program := "ytnhpjmjinchamaa", sum := "22428cd520abbc02a87f851b8b8d15e7f6a74cd2401989065c03bec4c1cec259", func := "drydock/drydocklaw28.LeasePlays", spec := "leasePlays", inPlace := ["internal/reflectlite.ValueOf", "internal/reflectlite.Swapper", "(internal/reflectlite.Value).Len"], unfollowed := true, recurses := true, plainKeys := false, apart := false }
def LeasePlaysSaid : Prop := leasePlaysRow.holds Try.pinned (OpenSpec.ofChange leasePlaysSpec)

/-- ITS FALSE NEIGHBOUR: 'it returns false'. Refute it at one input. -/
def leasePlaysWrong : ChangeSpec := { name := "leasePlays", fn := fun _ => fun
  | [d1, d2] => { results := [.lit (.bool false)], args := [d1, d2] }
  | _ => none }
def LeasePlaysWrongFalsely : Prop := leasePlaysRow.holds Try.pinned (OpenSpec.ofChange leasePlaysWrong)

/-- 'drydocklaw28.LeaseNil': WHATEVER THE INPUT: true; the input reads as it did. -/
def leaseNilSpec : ChangeSpec := { name := "leaseNil", fn := fun _ => fun
  | [d] => { results := [.lit (.bool true)], args := [d] }
  | _ => none }
def leaseNilRow : OpenClaim := { program := "ytnhpjmjinchamaa", sum := "22428cd520abbc02a87f851b8b8d15e7f6a74cd2401989065c03bec4c1cec259", func := "drydock/drydocklaw28.LeaseNil", spec := "leaseNil", inPlace := ["maps.clone", "internal/reflectlite.ValueOf", "internal/reflectlite.Swapper", "(internal/reflectlite.Value).Len"], unfollowed := true, recurses := true, plainKeys := false, apart := false }
def LeaseNilSaid : Prop := leaseNilRow.holds Try.pinned (OpenSpec.ofChange leaseNilSpec)

/-- ITS FALSE NEIGHBOUR: 'it returns false'. Refute it at one input. -/
def leaseNilWrong : ChangeSpec := { name := "leaseNil", fn := fun _ => fun
  | [d] => { results := [.lit (.bool false)], args := [d] }
  | _ => none }
def LeaseNilWrongFalsely : Prop := leaseNilRow.holds Try.pinned (OpenSpec.ofChange leaseNilWrong)

/-- 'drydocklaw28.LeaseClones': WHATEVER THE INPUT: true; the input reads as it did. -/
def leaseClonesSpec : ChangeSpec := { name := "leaseClones", fn := fun _ => fun
  | [d1, d2] => { results := [.lit (.bool true)], args := [d1, d2] }
  | _ => none }
def leaseClonesRow : OpenClaim := { program := "ytnhpjmjinchamaa", sum := "22428cd520abbc02a87f851b8b8d15e7f6a74cd2401989065c03bec4c1cec259", func := "drydock/drydocklaw28.LeaseClones", spec := "leaseClones", inPlace := ["maps.clone", "internal/reflectlite.ValueOf", "internal/reflectlite.Swapper", "(internal/reflectlite.Value).Len"], unfollowed := true, recurses := true, plainKeys := false, apart := false }
def LeaseClonesSaid : Prop := leaseClonesRow.holds Try.pinned (OpenSpec.ofChange leaseClonesSpec)

/-- ITS FALSE NEIGHBOUR: 'it returns false'. Refute it at one input. -/
def leaseClonesWrong : ChangeSpec := { name := "leaseClones", fn := fun _ => fun
  | [d1, d2] => { results := [.lit (.bool false)], args := [d1, d2] }
  | _ => none }
def LeaseClonesWrongFalsely : Prop := leaseClonesRow.holds Try.pinned (OpenSpec.ofChange leaseClonesWrong)

/- THE SECOND FORM. 'bulk': how many values and letters a reading holds, each counted each time it is reached (what is shared counts as often as it is met; a slice's spare places count too). A statement '..UptoSaid' is the law's where the arguments, and the package variables that the reading takes, are together of bulk at most 1048576: NARROWER than '..Said'. Prove '..Said' where nothing that the law and all that it calls make is longer than what came in: it says more and counts as full. Else prove '..UptoSaid'. A law counts once. -/
mutual
def uptoBulk {H : Type} : DataW H → Nat
  | .lit (.string bytes) => bytes.length + 1
  | .lit _ => 1
  | .nil => 1
  | .ptr d => uptoBulk d + 1
  | .slice elems spare => uptoBulkAll elems + uptoBulkAll spare + 1
  | .agg parts => uptoBulkAll parts + 1
  | .iface _ d => uptoBulk d + 1
  | .map entries => uptoBulkEntries entries + 1
  | .held _ => 1
def uptoBulkAll {H : Type} : List (DataW H) → Nat
  | [] => 0
  | d :: r => uptoBulk d + uptoBulkAll r
def uptoBulkEntries {H : Type} : List (Lit × DataW H) → Nat
  | [] => 0
  | x :: r => uptoBulkEntry x + uptoBulkEntries r
def uptoBulkEntry {H : Type} : Lit × DataW H → Nat
  | (.string bytes, d) => bytes.length + uptoBulk d + 1
  | (_, d) => uptoBulk d + 1
 end
def uptoSmall : (H : Type) → List (DataW H) → Bool := fun _ ds => decide (uptoBulkAll ds ≤ 1048576)
def OpenSpec.upto (s : _root_.Go.ChangeSpec) : _root_.Go.OpenSpec := { _root_.Go.OpenSpec.ofChange s with cond := some uptoSmall }

/-- 'drydocklaw28.LeaseVersions', WHERE WHAT IT READS IS OF BULK AT MOST 1048576: true; the input reads as it did. -/
def leaseVersionsUptoRow : OpenClaim := { program := "ytnhpjmjinchamaa", sum := "22428cd520abbc02a87f851b8b8d15e7f6a74cd2401989065c03bec4c1cec259", func := "drydock/drydocklaw28.LeaseVersions", spec := "leaseVersions", plainKeys := false, apart := false, narrowed := true }
def LeaseVersionsUptoSaid : Prop := leaseVersionsUptoRow.holds Try.pinned (OpenSpec.upto leaseVersionsSpec)

/-- 'drydocklaw28.LeaseEnds', WHERE WHAT IT READS IS OF BULK AT MOST 1048576: true; the input reads as it did. -/
def leaseEndsUptoRow : OpenClaim := { program := "ytnhpjmjinchamaa", sum := "22428cd520abbc02a87f851b8b8d15e7f6a74cd2401989065c03bec4c1cec259", func := "drydock/drydocklaw28.LeaseEnds", spec := "leaseEnds", plainKeys := false, apart := false, narrowed := true }
def LeaseEndsUptoSaid : Prop := leaseEndsUptoRow.holds Try.pinned (OpenSpec.upto leaseEndsSpec)

/-- 'drydocklaw28.LeaseFree', WHERE WHAT IT READS IS OF BULK AT MOST 1048576: true; the input reads as it did. -/
def leaseFreeUptoRow : OpenClaim := { program := "ytnhpjmjinchamaa", sum := "22428cd520abbc02a87f851b8b8d15e7f6a74cd2401989065c03bec4c1cec259", func := "drydock/drydocklaw28.LeaseFree", spec := "leaseFree", plainKeys := false, apart := false, narrowed := true }
def LeaseFreeUptoSaid : Prop := leaseFreeUptoRow.holds Try.pinned (OpenSpec.upto leaseFreeSpec)

/-- 'drydocklaw28.LeaseOnce', WHERE WHAT IT READS IS OF BULK AT MOST 1048576: true; the input reads as it did. -/
def leaseOnceUptoRow : OpenClaim := { program := "ytnhpjmjinchamaa", sum := "22428cd520abbc02a87f851b8b8d15e7f6a74cd2401989065c03bec4c1cec259", func := "drydock/drydocklaw28.LeaseOnce", spec := "leaseOnce", inPlace := ["internal/reflectlite.ValueOf", "internal/reflectlite.Swapper", "(internal/reflectlite.Value).Len"], unfollowed := true, recurses := true, plainKeys := false, apart := false, narrowed := true }
def LeaseOnceUptoSaid : Prop := leaseOnceUptoRow.holds Try.pinned (OpenSpec.upto leaseOnceSpec)

/-- 'drydocklaw28.LeasePlays', WHERE WHAT IT READS IS OF BULK AT MOST 1048576: true; the input reads as it did. -/
def leasePlaysUptoRow : OpenClaim := { program := "ytnhpjmjinchamaa", sum := "22428cd520abbc02a87f851b8b8d15e7f6a74cd2401989065c03bec4c1cec259", func := "drydock/drydocklaw28.LeasePlays", spec := "leasePlays", inPlace := ["internal/reflectlite.ValueOf", "internal/reflectlite.Swapper", "(internal/reflectlite.Value).Len"], unfollowed := true, recurses := true, plainKeys := false, apart := false, narrowed := true }
def LeasePlaysUptoSaid : Prop := leasePlaysUptoRow.holds Try.pinned (OpenSpec.upto leasePlaysSpec)

/-- 'drydocklaw28.LeaseNil', WHERE WHAT IT READS IS OF BULK AT MOST 1048576: true; the input reads as it did. -/
def leaseNilUptoRow : OpenClaim := { program := "ytnhpjmjinchamaa", sum := "22428cd520abbc02a87f851b8b8d15e7f6a74cd2401989065c03bec4c1cec259", func := "drydock/drydocklaw28.LeaseNil", spec := "leaseNil", inPlace := ["maps.clone", "internal/reflectlite.ValueOf", "internal/reflectlite.Swapper", "(internal/reflectlite.Value).Len"], unfollowed := true, recurses := true, plainKeys := false, apart := false, narrowed := true }
def LeaseNilUptoSaid : Prop := leaseNilUptoRow.holds Try.pinned (OpenSpec.upto leaseNilSpec)

/-- 'drydocklaw28.LeaseClones', WHERE WHAT IT READS IS OF BULK AT MOST 1048576: true; the input reads as it did. -/
def leaseClonesUptoRow : OpenClaim := { program := "ytnhpjmjinchamaa", sum := "22428cd520abbc02a87f851b8b8d15e7f6a74cd2401989065c03bec4c1cec259", func := "drydock/drydocklaw28.LeaseClones", spec := "leaseClones", inPlace := ["maps.clone", "internal/reflectlite.ValueOf", "internal/reflectlite.Swapper", "(internal/reflectlite.Value).Len"], unfollowed := true, recurses := true, plainKeys := false, apart := false, narrowed := true }
def LeaseClonesUptoSaid : Prop := leaseClonesUptoRow.holds Try.pinned (OpenSpec.upto leaseClonesSpec)

end Rows
end Go.Proofs.Ytnhpjmjinchamaa
