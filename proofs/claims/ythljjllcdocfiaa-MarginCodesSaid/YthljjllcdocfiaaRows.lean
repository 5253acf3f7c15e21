/-
  No cell of these rows narrows 'for every input' (looked for: loops, veiled, ifaces, maps, wideKeys, modest, calm, conditions, laid).
  DERIVED. THE GIVEN ROWS OF THIS SEAT. 8 by the template 'for every input the law returns true; each argument reads behind the call as it read before'; 0 by the template 'total and deterministic' (their statements: YthljjllcdocfiaaTotals.lean).
  GIVEN WITH THE SEED: the statements are not yours to turn. If you find one false, say at which input.
  Laid BY PROGRAM, IN A SANDBOX (cutbox-rows.mjs): the forced cells as the released guide's own fill.sh prints them over the translation 4dc1f20427094506… (all of the seat's roots in one cut). By AI agents, Wed Nov 11 2026. No macro, syntax, notation, axiom, sorry.
-/
import Derived.Test.YthljjllcdocfiaaChecked
import GoSem.Claim
import GoSem.ClaimJoined
import GoSem.ClaimMapViews
import Derived.JoinedTies
import Derived.KernelRfl
namespace Go.Proofs.Ythljjllcdocfiaa
/- THE CELL 'sum', in the pinned program and in every row, IS THE sha256 OF THE DUMP (.gsa) THAT YthljjllcdocfiaaProg.lean LOADS. Nothing in Lean hashes anything: it is a label: what it is worth is what the hold of that sum in a sandbox is worth. -/
noncomputable def Try.pinned : Pinned := { name := "ythljjllcdocfiaa", sum := "4dc1f20427094506b5845331f2fdd93d24c79436746421e3d1ff1a3f802bf45d", checked := Try.checked }
namespace Rows
def none {H : Type} : Left H := { results := [], args := [] }

/-- 'drydocklaw29.MarginCounts': WHATEVER THE INPUT: true; the input reads as it did. -/
def marginCountsSpec : ChangeSpec := { name := "marginCounts", fn := fun _ => fun
  | [d1, d2, d3, d4] => { results := [.lit (.bool true)], args := [d1, d2, d3, d4] }
  | _ => none }
def marginCountsRow : OpenClaim := { program := "ythljjllcdocfiaa", sum := "4dc1f20427094506b5845331f2fdd93d24c79436746421e3d1ff1a3f802bf45d", func := "drydock/drydocklaw29.MarginCounts", spec := "marginCounts", inPlace := ["internal/reflectlite.ValueOf", "internal/reflectlite.Swapper", "(internal/reflectlite.Value).Len"], unfollowed := true, recurses := true, apart := false }
def MarginCountsSaid : Prop := marginCountsRow.holds Try.pinned (OpenSpec.ofChange marginCountsSpec)

/-- ITS FALSE NEIGHBOUR: 'it returns false'. Refute it at one input. -/
def marginCountsWrong : ChangeSpec := { name := "marginCounts", fn := fun _ => fun
  | [d1, d2, d3, d4] => { results := [.lit (.bool false)], args := [d1, d2, d3, d4] }
  | _ => none }
def MarginCountsWrongFalsely : Prop := marginCountsRow.holds Try.pinned (OpenSpec.ofChange marginCountsWrong)

/-- 'drydocklaw29.MarginSurvives': WHATEVER THE INPUT: true; the input reads as it did. -/
def marginSurvivesSpec : ChangeSpec := { name := "marginSurvives", fn := fun _ => fun
  | [d1, d2, d3, d4] => { results := [.lit (.bool true)], args := [d1, d2, d3, d4] }
  | _ => none }
def marginSurvivesRow : OpenClaim := { program := "ythljjllcdocfiaa", sum := "4dc1f20427094506b5845331f2fdd93d24c79436746421e3d1ff1a3f802bf45d", func := "drydock/drydocklaw29.MarginSurvives", spec := "marginSurvives", inPlace := ["internal/reflectlite.ValueOf", "internal/reflectlite.Swapper", "(internal/reflectlite.Value).Len"], unfollowed := true, recurses := true, apart := false }
def MarginSurvivesSaid : Prop := marginSurvivesRow.holds Try.pinned (OpenSpec.ofChange marginSurvivesSpec)

/-- ITS FALSE NEIGHBOUR: 'it returns false'. Refute it at one input. -/
def marginSurvivesWrong : ChangeSpec := { name := "marginSurvives", fn := fun _ => fun
  | [d1, d2, d3, d4] => { results := [.lit (.bool false)], args := [d1, d2, d3, d4] }
  | _ => none }
def MarginSurvivesWrongFalsely : Prop := marginSurvivesRow.holds Try.pinned (OpenSpec.ofChange marginSurvivesWrong)

/-- 'drydocklaw29.MarginCuts': WHATEVER THE INPUT: true; the input reads as it did. -/
def marginCutsSpec : ChangeSpec := { name := "marginCuts", fn := fun _ => fun
  | [d1, d2, d3] => { results := [.lit (.bool true)], args := [d1, d2, d3] }
  | _ => none }
def marginCutsRow : OpenClaim := { program := "ythljjllcdocfiaa", sum := "4dc1f20427094506b5845331f2fdd93d24c79436746421e3d1ff1a3f802bf45d", func := "drydock/drydocklaw29.MarginCuts", spec := "marginCuts", inPlace := ["internal/reflectlite.ValueOf", "internal/reflectlite.Swapper", "(internal/reflectlite.Value).Len"], unfollowed := true, recurses := true, apart := false }
def MarginCutsSaid : Prop := marginCutsRow.holds Try.pinned (OpenSpec.ofChange marginCutsSpec)

/-- ITS FALSE NEIGHBOUR: 'it returns false'. Refute it at one input. -/
def marginCutsWrong : ChangeSpec := { name := "marginCuts", fn := fun _ => fun
  | [d1, d2, d3] => { results := [.lit (.bool false)], args := [d1, d2, d3] }
  | _ => none }
def MarginCutsWrongFalsely : Prop := marginCutsRow.holds Try.pinned (OpenSpec.ofChange marginCutsWrong)

/-- 'drydocklaw29.MarginMinimal': WHATEVER THE INPUT: true; the input reads as it did. -/
def marginMinimalSpec : ChangeSpec := { name := "marginMinimal", fn := fun _ => fun
  | [d1, d2, d3, d4] => { results := [.lit (.bool true)], args := [d1, d2, d3, d4] }
  | _ => none }
def marginMinimalRow : OpenClaim := { program := "ythljjllcdocfiaa", sum := "4dc1f20427094506b5845331f2fdd93d24c79436746421e3d1ff1a3f802bf45d", func := "drydock/drydocklaw29.MarginMinimal", spec := "marginMinimal", inPlace := ["internal/reflectlite.ValueOf", "internal/reflectlite.Swapper", "(internal/reflectlite.Value).Len"], unfollowed := true, recurses := true, apart := false }
def MarginMinimalSaid : Prop := marginMinimalRow.holds Try.pinned (OpenSpec.ofChange marginMinimalSpec)

/-- ITS FALSE NEIGHBOUR: 'it returns false'. Refute it at one input. -/
def marginMinimalWrong : ChangeSpec := { name := "marginMinimal", fn := fun _ => fun
  | [d1, d2, d3, d4] => { results := [.lit (.bool false)], args := [d1, d2, d3, d4] }
  | _ => none }
def MarginMinimalWrongFalsely : Prop := marginMinimalRow.holds Try.pinned (OpenSpec.ofChange marginMinimalWrong)

/-- 'drydocklaw29.MarginMonotone': WHATEVER THE INPUT: true; the input reads as it did. -/
def marginMonotoneSpec : ChangeSpec := { name := "marginMonotone", fn := fun _ => fun
  | [d1, d2, d3, d4, d5, d6] => { results := [.lit (.bool true)], args := [d1, d2, d3, d4, d5, d6] }
  | _ => none }
def marginMonotoneRow : OpenClaim := { program := "ythljjllcdocfiaa", sum := "4dc1f20427094506b5845331f2fdd93d24c79436746421e3d1ff1a3f802bf45d", func := "drydock/drydocklaw29.MarginMonotone", spec := "marginMonotone", inPlace := ["internal/reflectlite.ValueOf", "internal/reflectlite.Swapper", "(internal/reflectlite.Value).Len"], unfollowed := true, recurses := true, apart := false }
def MarginMonotoneSaid : Prop := marginMonotoneRow.holds Try.pinned (OpenSpec.ofChange marginMonotoneSpec)

/-- ITS FALSE NEIGHBOUR: 'it returns false'. Refute it at one input. -/
def marginMonotoneWrong : ChangeSpec := { name := "marginMonotone", fn := fun _ => fun
  | [d1, d2, d3, d4, d5, d6] => { results := [.lit (.bool false)], args := [d1, d2, d3, d4, d5, d6] }
  | _ => none }
def MarginMonotoneWrongFalsely : Prop := marginMonotoneRow.holds Try.pinned (OpenSpec.ofChange marginMonotoneWrong)

/-- 'drydocklaw29.MarginMotion': WHATEVER THE INPUT: true; the input reads as it did. -/
def marginMotionSpec : ChangeSpec := { name := "marginMotion", fn := fun _ => fun
  | [d1, d2, d3, d4, d5, d6] => { results := [.lit (.bool true)], args := [d1, d2, d3, d4, d5, d6] }
  | _ => none }
def marginMotionRow : OpenClaim := { program := "ythljjllcdocfiaa", sum := "4dc1f20427094506b5845331f2fdd93d24c79436746421e3d1ff1a3f802bf45d", func := "drydock/drydocklaw29.MarginMotion", spec := "marginMotion", inPlace := ["internal/reflectlite.ValueOf", "internal/reflectlite.Swapper", "(internal/reflectlite.Value).Len"], unfollowed := true, recurses := true, apart := false }
def MarginMotionSaid : Prop := marginMotionRow.holds Try.pinned (OpenSpec.ofChange marginMotionSpec)

/-- ITS FALSE NEIGHBOUR: 'it returns false'. Refute it at one input. -/
def marginMotionWrong : ChangeSpec := { name := "marginMotion", fn := fun _ => fun
  | [d1, d2, d3, d4, d5, d6] => { results := [.lit (.bool false)], args := [d1, d2, d3, d4, d5, d6] }
  | _ => none }
def MarginMotionWrongFalsely : Prop := marginMotionRow.holds Try.pinned (OpenSpec.ofChange marginMotionWrong)

/-- 'drydocklaw29.MarginWeakest': WHATEVER THE INPUT: true; the input reads as it did. -/
def marginWeakestSpec : ChangeSpec := { name := "marginWeakest", fn := fun _ => fun
  | [d1, d2, d3, d4] => { results := [.lit (.bool true)], args := [d1, d2, d3, d4] }
  | _ => none }
def marginWeakestRow : OpenClaim := { program := "ythljjllcdocfiaa", sum := "4dc1f20427094506b5845331f2fdd93d24c79436746421e3d1ff1a3f802bf45d", func := "drydock/drydocklaw29.MarginWeakest", spec := "marginWeakest", inPlace := ["internal/reflectlite.ValueOf", "internal/reflectlite.Swapper", "(internal/reflectlite.Value).Len"], unfollowed := true, recurses := true, apart := false }
def MarginWeakestSaid : Prop := marginWeakestRow.holds Try.pinned (OpenSpec.ofChange marginWeakestSpec)

/-- ITS FALSE NEIGHBOUR: 'it returns false'. Refute it at one input. -/
def marginWeakestWrong : ChangeSpec := { name := "marginWeakest", fn := fun _ => fun
  | [d1, d2, d3, d4] => { results := [.lit (.bool false)], args := [d1, d2, d3, d4] }
  | _ => none }
def MarginWeakestWrongFalsely : Prop := marginWeakestRow.holds Try.pinned (OpenSpec.ofChange marginWeakestWrong)

/-- 'drydocklaw29.MarginCodes': WHATEVER THE INPUT: true; the input reads as it did. -/
def marginCodesSpec : ChangeSpec := { name := "marginCodes", fn := fun _ => fun
  | [d1, d2, d3, d4] => { results := [.lit (.bool true)], args := [d1, d2, d3, d4] }
  | _ => none }
def marginCodesRow : OpenClaim := { program := "ythljjllcdocfiaa", sum := "4dc1f20427094506b5845331f2fdd93d24c79436746421e3d1ff1a3f802bf45d", func := "drydock/drydocklaw29.MarginCodes", spec := "marginCodes", inPlace := ["internal/reflectlite.ValueOf", "internal/reflectlite.Swapper", "(internal/reflectlite.Value).Len"], unfollowed := true, recurses := true, apart := false }
def MarginCodesSaid : Prop := marginCodesRow.holds Try.pinned (OpenSpec.ofChange marginCodesSpec)

/-- ITS FALSE NEIGHBOUR: 'it returns false'. Refute it at one input. -/
def marginCodesWrong : ChangeSpec := { name := "marginCodes", fn := fun _ => fun
  | [d1, d2, d3, d4] => { results := [.lit (.bool false)], args := [d1, d2, d3, d4] }
  | _ => none }
def MarginCodesWrongFalsely : Prop := marginCodesRow.holds Try.pinned (OpenSpec.ofChange marginCodesWrong)

/- THE SECOND FORM. 'bulk': how many values and letters a reading holds, each counted each time it is reached (what is shared counts as often as it is met; a slice's spare places count too). A statement '..UptoSaid' is the law's where the arguments, and the package variables that the reading takes, are together of bulk at most 1048576: NARROWER than '..Said'. Prove '..Said' where nothing that the law and all that it calls make is longer than what came in: it says more and counts as full. Else prove '..UptoSaid'. A law counts once. -/
mutual
def uptoBulk {H : Type} : DataW H → Nat
  | .lit (.string bytes) => bytes.length + 1
  | .lit _ => 1
  | .nil => 1
  | .ptr d => uptoBulk d + 1
  | .slice elems spare => uptoBulkAll elems + uptoBulkAll spare + 1
  | .agg parts => uptoBulkAll parts + 1
  | .iface _ d => uptoBulk d + 1
  | .map entries => uptoBulkEntries entries + 1
  | .held _ => 1
def uptoBulkAll {H : Type} : List (DataW H) → Nat
  | [] => 0
  | d :: r => uptoBulk d + uptoBulkAll r
def uptoBulkEntries {H : Type} : List (Lit × DataW H) → Nat
  | [] => 0
  | x :: r => uptoBulkEntry x + uptoBulkEntries r
def uptoBulkEntry {H : Type} : Lit × DataW H → Nat
  | (.string bytes, d) => bytes.length + uptoBulk d + 1
  | (_, d) => uptoBulk d + 1
 end
def uptoSmall : (H : Type) → List (DataW H) → Bool := fun _ ds => decide (uptoBulkAll ds ≤ 1048576)
def OpenSpec.upto (s : _root_.Go.ChangeSpec) : _root_.Go.OpenSpec := { _root_.Go.OpenSpec.ofChange s with cond := some uptoSmall }

/-- 'drydocklaw29.MarginCounts', WHERE WHAT IT READS IS OF BULK AT MOST 1048576: true; the input reads as it did. -/
def marginCountsUptoRow : OpenClaim := { program := "ythljjllcdocfiaa", sum := "4dc1f20427094506b5845331f2fdd93d24c79436746421e3d1ff1a3f802bf45d", func := "drydock/drydocklaw29.MarginCounts", spec := "marginCounts", inPlace := ["internal/reflectlite.ValueOf", "internal/reflectlite.Swapper", "(internal/reflectlite.Value).Len"], unfollowed := true, recurses := true, apart := false, narrowed := true }
def MarginCountsUptoSaid : Prop := marginCountsUptoRow.holds Try.pinned (OpenSpec.upto marginCountsSpec)

/-- 'drydocklaw29.MarginSurvives', WHERE WHAT IT READS IS OF BULK AT MOST 1048576: true; the input reads as it did. -/
def marginSurvivesUptoRow : OpenClaim := { program := "ythljjllcdocfiaa", sum := "4dc1f20427094506b5845331f2fdd93d24c79436746421e3d1ff1a3f802bf45d", func := "drydock/drydocklaw29.MarginSurvives", spec := "marginSurvives", inPlace := ["internal/reflectlite.ValueOf", "internal/reflectlite.Swapper", "(internal/reflectlite.Value).Len"], unfollowed := true, recurses := true, apart := false, narrowed := true }
def MarginSurvivesUptoSaid : Prop := marginSurvivesUptoRow.holds Try.pinned (OpenSpec.upto marginSurvivesSpec)

/-- 'drydocklaw29.MarginCuts', WHERE WHAT IT READS IS OF BULK AT MOST 1048576: true; the input reads as it did. -/
def marginCutsUptoRow : OpenClaim := { program := "ythljjllcdocfiaa", sum := "4dc1f20427094506b5845331f2fdd93d24c79436746421e3d1ff1a3f802bf45d", func := "drydock/drydocklaw29.MarginCuts", spec := "marginCuts", inPlace := ["internal/reflectlite.ValueOf", "internal/reflectlite.Swapper", "(internal/reflectlite.Value).Len"], unfollowed := true, recurses := true, apart := false, narrowed := true }
def MarginCutsUptoSaid : Prop := marginCutsUptoRow.holds Try.pinned (OpenSpec.upto marginCutsSpec)

/-- 'drydocklaw29.MarginMinimal', WHERE WHAT IT READS IS OF BULK AT MOST 1048576: true; the input reads as it did. -/
def marginMinimalUptoRow : OpenClaim := { program := "ythljjllcdocfiaa", sum := "4dc1f20427094506b5845331f2fdd93d24c79436746421e3d1ff1a3f802bf45d", func := "drydock/drydocklaw29.MarginMinimal", spec := "marginMinimal", inPlace := ["internal/reflectlite.ValueOf", "internal/reflectlite.Swapper", "(internal/reflectlite.Value).Len"], unfollowed := true, recurses := true, apart := false, narrowed := true }
def MarginMinimalUptoSaid : Prop := marginMinimalUptoRow.holds Try.pinned (OpenSpec.upto marginMinimalSpec)

/-- 'drydocklaw29.MarginMonotone', WHERE WHAT IT READS IS OF BULK AT MOST 1048576: true; the input reads as it did. -/
def marginMonotoneUptoRow : OpenClaim := { program := "ythljjllcdocfiaa", sum := "4dc1f20427094506b5845331f2fdd93d24c79436746421e3d1ff1a3f802bf45d", func := "drydock/drydocklaw29.MarginMonotone", spec := "marginMonotone", inPlace := ["internal/reflectlite.ValueOf", "internal/reflectlite.Swapper", "(internal/reflectlite.Value).Len"], unfollowed := true, recurses := true, apart := false, narrowed := true }
def MarginMonotoneUptoSaid : Prop := marginMonotoneUptoRow.holds Try.pinned (OpenSpec.upto marginMonotoneSpec)

/-- 'drydocklaw29.MarginMotion', WHERE WHAT IT READS IS OF BULK AT MOST 1048576: true; the input reads as it did. -/
def marginMotionUptoRow : OpenClaim := { program := "ythljjllcdocfiaa", sum := "4dc1f20427094506b5845331f2fdd93d24c79436746421e3d1ff1a3f802bf45d", func := "drydock/drydocklaw29.MarginMotion", spec := "marginMotion", inPlace := ["internal/reflectlite.ValueOf", "internal/reflectlite.Swapper", "(internal/reflectlite.Value).Len"], unfollowed := true, recurses := true, apart := false, narrowed := true }
def MarginMotionUptoSaid : Prop := marginMotionUptoRow.holds Try.pinned (OpenSpec.upto marginMotionSpec)

/-- 'drydocklaw29.MarginWeakest', WHERE WHAT IT READS IS OF BULK AT MOST 1048576: true; the input reads as it did. -/
def marginWeakestUptoRow : OpenClaim := { program := "ythljjllcdocfiaa", sum := "4dc1f20427094506b5845331f2fdd93d24c79436746421e3d1ff1a3f802bf45d", func := "drydock/drydocklaw29.MarginWeakest", spec := "marginWeakest", inPlace := ["internal/reflectlite.ValueOf", "internal/reflectlite.Swapper", "(internal/reflectlite.Value).Len"], unfollowed := true, recurses := true, apart := false, narrowed := true }
def MarginWeakestUptoSaid : Prop := marginWeakestUptoRow.holds Try.pinned (OpenSpec.upto marginWeakestSpec)

/-- 'drydocklaw29.MarginCodes', WHERE WHAT IT READS IS OF BULK AT MOST 1048576: true; the input reads as it did. -/
def marginCodesUptoRow : OpenClaim := { program := "ythljjllcdocfiaa", sum := "4dc1f20427094506b5845331f2fdd93d24c79436746421e3d1ff1a3f802bf45d", func := "drydock/drydocklaw29.MarginCodes", spec := "marginCodes", inPlace := ["internal/reflectlite.ValueOf", "internal/reflectlite.Swapper", "(internal/reflectlite.Value).Len"], unfollowed := true, recurses := true, apart := false, narrowed := true }
def MarginCodesUptoSaid : Prop := marginCodesUptoRow.holds Try.pinned (OpenSpec.upto marginCodesSpec)

end Rows
end Go.Proofs.Ythljjllcdocfiaa
