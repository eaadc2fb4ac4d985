/-
  No cell of these rows narrows 'for every input' (looked for: loops, veiled, ifaces, maps, wideKeys, modest, calm, conditions, laid).
  DERIVED. THE GIVEN ROWS OF THIS SEAT. 7 by the template 'for every input the law returns true; each argument reads behind the call as it read before'; 0 by the template 'total and deterministic' (their statements: YtondobomjfanbaaTotals.lean).
  GIVEN WITH THE SEED: the statements are not yours to turn. If you find one false, say at which input.
  Laid BY PROGRAM, IN A SANDBOX (cutbox-rows.mjs): the forced cells as the released guide's own fill.sh prints them over the translation 5c1e4a0074e2bb6e… (all of the seat's roots in one cut). By AI agents, Wed Nov 11 2026. No macro, syntax, notation, axiom, sorry.
-/
import Derived.Test.YtondobomjfanbaaChecked
import GoSem.Claim
import GoSem.ClaimJoined
import GoSem.ClaimMapViews
import Derived.JoinedTies
import Derived.KernelRfl
namespace Go.Proofs.Ytondobomjfanbaa
/- THE CELL 'sum', in the pinned program and in every row, IS THE sha256 OF THE DUMP (.gsa) THAT YtondobomjfanbaaProg.lean LOADS. Nothing in Lean hashes anything: it is a label: what it is worth is what the hold of that sum in a sandbox is worth. -/
noncomputable def Try.pinned : Pinned := { name := "ytondobomjfanbaa", sum := "5c1e4a0074e2bb6e4680c428c873f578bd0781c55be0c268701de30622cdc209", checked := Try.checked }
namespace Rows
def none {H : Type} : Left H := { results := [], args := [] }

/-- 'ambidexterlaw01.RotationMatchesReference': WHATEVER THE INPUT: true; the input reads as it did. -/
def rotationMatchesReferenceSpec : ChangeSpec := { name := "rotationMatchesReference", fn := fun _ => fun
  | [d1, d2, d3, d4, d5, d6] => { results := [.lit (.bool true)], args := [d1, d2, d3, d4, d5, d6] }
  | _ => none }
def rotationMatchesReferenceRow : OpenClaim := { program := "ytondobomjfanbaa", sum := "5c1e4a0074e2bb6e4680c428c873f578bd0781c55be0c268701de30622cdc209", func := "ambidexter/ambidexterlaw01.RotationMatchesReference", spec := "rotationMatchesReference", unfollowed := true, recurses := true, apart := false }
def RotationMatchesReferenceSaid : Prop := rotationMatchesReferenceRow.holds Try.pinned (OpenSpec.ofChange rotationMatchesReferenceSpec)

/-- ITS FALSE NEIGHBOUR: 'it returns false'. Refute it at one input. -/
def rotationMatchesReferenceWrong : ChangeSpec := { name := "rotationMatchesReference", fn := fun _ => fun
  | [d1, d2, d3, d4, d5, d6] => { results := [.lit (.bool false)], args := [d1, d2, d3, d4, d5, d6] }
  | _ => none }
def RotationMatchesReferenceWrongFalsely : Prop := rotationMatchesReferenceRow.holds Try.pinned (OpenSpec.ofChange rotationMatchesReferenceWrong)

/-- 'ambidexterlaw01.RotationOneRevolution': WHATEVER THE INPUT: true; the input reads as it did. -/
def rotationOneRevolutionSpec : ChangeSpec := { name := "rotationOneRevolution", fn := fun _ => fun
  | [d] => { results := [.lit (.bool true)], args := [d] }
  | _ => none }
def rotationOneRevolutionRow : OpenClaim := { program := "ytondobomjfanbaa", sum := "5c1e4a0074e2bb6e4680c428c873f578bd0781c55be0c268701de30622cdc209", func := "ambidexter/ambidexterlaw01.RotationOneRevolution", spec := "rotationOneRevolution", unfollowed := true, recurses := true, apart := false }
def RotationOneRevolutionSaid : Prop := rotationOneRevolutionRow.holds Try.pinned (OpenSpec.ofChange rotationOneRevolutionSpec)

/-- ITS FALSE NEIGHBOUR: 'it returns false'. Refute it at one input. -/
def rotationOneRevolutionWrong : ChangeSpec := { name := "rotationOneRevolution", fn := fun _ => fun
  | [d] => { results := [.lit (.bool false)], args := [d] }
  | _ => none }
def RotationOneRevolutionWrongFalsely : Prop := rotationOneRevolutionRow.holds Try.pinned (OpenSpec.ofChange rotationOneRevolutionWrong)

/-- 'ambidexterlaw01.RotationAllPairs': WHATEVER THE INPUT: true; the input reads as it did. -/
def rotationAllPairsSpec : ChangeSpec := { name := "rotationAllPairs", fn := fun _ => fun
  | [d1, d2] => { results := [.lit (.bool true)], args := [d1, d2] }
  | _ => none }
def rotationAllPairsRow : OpenClaim := { program := "ytondobomjfanbaa", sum := "5c1e4a0074e2bb6e4680c428c873f578bd0781c55be0c268701de30622cdc209", func := "ambidexter/ambidexterlaw01.RotationAllPairs", spec := "rotationAllPairs", unfollowed := true, recurses := true, apart := false }
def RotationAllPairsSaid : Prop := rotationAllPairsRow.holds Try.pinned (OpenSpec.ofChange rotationAllPairsSpec)

/-- ITS FALSE NEIGHBOUR: 'it returns false'. Refute it at one input. -/
def rotationAllPairsWrong : ChangeSpec := { name := "rotationAllPairs", fn := fun _ => fun
  | [d1, d2] => { results := [.lit (.bool false)], args := [d1, d2] }
  | _ => none }
def RotationAllPairsWrongFalsely : Prop := rotationAllPairsRow.holds Try.pinned (OpenSpec.ofChange rotationAllPairsWrong)

/-- 'ambidexterlaw01.RotationInverse': WHATEVER THE INPUT: true; the input reads as it did. -/
def rotationInverseSpec : ChangeSpec := { name := "rotationInverse", fn := fun _ => fun
  | [d1, d2] => { results := [.lit (.bool true)], args := [d1, d2] }
  | _ => none }
def rotationInverseRow : OpenClaim := { program := "ytondobomjfanbaa", sum := "5c1e4a0074e2bb6e4680c428c873f578bd0781c55be0c268701de30622cdc209", func := "ambidexter/ambidexterlaw01.RotationInverse", spec := "rotationInverse", unfollowed := true, recurses := true, apart := false }
def RotationInverseSaid : Prop := rotationInverseRow.holds Try.pinned (OpenSpec.ofChange rotationInverseSpec)

/-- ITS FALSE NEIGHBOUR: 'it returns false'. Refute it at one input. -/
def rotationInverseWrong : ChangeSpec := { name := "rotationInverse", fn := fun _ => fun
  | [d1, d2] => { results := [.lit (.bool false)], args := [d1, d2] }
  | _ => none }
def RotationInverseWrongFalsely : Prop := rotationInverseRow.holds Try.pinned (OpenSpec.ofChange rotationInverseWrong)

/-- 'ambidexterlaw01.RotationCommutes': WHATEVER THE INPUT: true; the input reads as it did. -/
def rotationCommutesSpec : ChangeSpec := { name := "rotationCommutes", fn := fun _ => fun
  | [d1, d2, d3] => { results := [.lit (.bool true)], args := [d1, d2, d3] }
  | _ => none }
def rotationCommutesRow : OpenClaim := { program := "ytondobomjfanbaa", sum := "5c1e4a0074e2bb6e4680c428c873f578bd0781c55be0c268701de30622cdc209", func := "ambidexter/ambidexterlaw01.RotationCommutes", spec := "rotationCommutes", unfollowed := true, recurses := true, apart := false }
def RotationCommutesSaid : Prop := rotationCommutesRow.holds Try.pinned (OpenSpec.ofChange rotationCommutesSpec)

/-- ITS FALSE NEIGHBOUR: 'it returns false'. Refute it at one input. -/
def rotationCommutesWrong : ChangeSpec := { name := "rotationCommutes", fn := fun _ => fun
  | [d1, d2, d3] => { results := [.lit (.bool false)], args := [d1, d2, d3] }
  | _ => none }
def RotationCommutesWrongFalsely : Prop := rotationCommutesRow.holds Try.pinned (OpenSpec.ofChange rotationCommutesWrong)

/-- 'ambidexterlaw01.RotationOffsetLength': WHATEVER THE INPUT: true; the input reads as it did. -/
def rotationOffsetLengthSpec : ChangeSpec := { name := "rotationOffsetLength", fn := fun _ => fun
  | [d1, d2] => { results := [.lit (.bool true)], args := [d1, d2] }
  | _ => none }
def rotationOffsetLengthRow : OpenClaim := { program := "ytondobomjfanbaa", sum := "5c1e4a0074e2bb6e4680c428c873f578bd0781c55be0c268701de30622cdc209", func := "ambidexter/ambidexterlaw01.RotationOffsetLength", spec := "rotationOffsetLength", unfollowed := true, recurses := true, apart := false }
def RotationOffsetLengthSaid : Prop := rotationOffsetLengthRow.holds Try.pinned (OpenSpec.ofChange rotationOffsetLengthSpec)

/-- ITS FALSE NEIGHBOUR: 'it returns false'. Refute it at one input. -/
def rotationOffsetLengthWrong : ChangeSpec := { name := "rotationOffsetLength", fn := fun _ => fun
  | [d1, d2] => { results := [.lit (.bool false)], args := [d1, d2] }
  | _ => none }
def RotationOffsetLengthWrongFalsely : Prop := rotationOffsetLengthRow.holds Try.pinned (OpenSpec.ofChange rotationOffsetLengthWrong)

/-- 'ambidexterlaw01.RotationPreservesLength': WHATEVER THE INPUT: true; the input reads as it did. -/
def rotationPreservesLengthSpec : ChangeSpec := { name := "rotationPreservesLength", fn := fun _ => fun
  | [d1, d2, d3] => { results := [.lit (.bool true)], args := [d1, d2, d3] }
  | _ => none }
def rotationPreservesLengthRow : OpenClaim := { program := "ytondobomjfanbaa", sum := "5c1e4a0074e2bb6e4680c428c873f578bd0781c55be0c268701de30622cdc209", func := "ambidexter/ambidexterlaw01.RotationPreservesLength", spec := "rotationPreservesLength", unfollowed := true, recurses := true, apart := false }
def RotationPreservesLengthSaid : Prop := rotationPreservesLengthRow.holds Try.pinned (OpenSpec.ofChange rotationPreservesLengthSpec)

/-- ITS FALSE NEIGHBOUR: 'it returns false'. Refute it at one input. -/
def rotationPreservesLengthWrong : ChangeSpec := { name := "rotationPreservesLength", fn := fun _ => fun
  | [d1, d2, d3] => { results := [.lit (.bool false)], args := [d1, d2, d3] }
  | _ => none }
def RotationPreservesLengthWrongFalsely : Prop := rotationPreservesLengthRow.holds Try.pinned (OpenSpec.ofChange rotationPreservesLengthWrong)

/- THE SECOND FORM. 'bulk': how many values and letters a reading holds, each counted each time it is reached (what is shared counts as often as it is met; a slice's spare places count too). A statement '..UptoSaid' is the law's where the arguments, and the package variables that the reading takes, are together of bulk at most 1048576: NARROWER than '..Said'. Prove '..Said' where nothing that the law and all that it calls make is longer than what came in: it says more and counts as full. Else prove '..UptoSaid'. A law counts once. -/
mutual
def uptoBulk {H : Type} : DataW H → Nat
  | .lit (.string bytes) => bytes.length + 1
  | .lit _ => 1
  | .nil => 1
  | .ptr d => uptoBulk d + 1
  | .slice elems spare => uptoBulkAll elems + uptoBulkAll spare + 1
  | .agg parts => uptoBulkAll parts + 1
  | .iface _ d => uptoBulk d + 1
  | .map entries => uptoBulkEntries entries + 1
  | .held _ => 1
def uptoBulkAll {H : Type} : List (DataW H) → Nat
  | [] => 0
  | d :: r => uptoBulk d + uptoBulkAll r
def uptoBulkEntries {H : Type} : List (Lit × DataW H) → Nat
  | [] => 0
  | x :: r => uptoBulkEntry x + uptoBulkEntries r
def uptoBulkEntry {H : Type} : Lit × DataW H → Nat
  | (.string bytes, d) => bytes.length + uptoBulk d + 1
  | (_, d) => uptoBulk d + 1
 end
def uptoSmall : (H : Type) → List (DataW H) → Bool := fun _ ds => decide (uptoBulkAll ds ≤ 1048576)
def OpenSpec.upto (s : _root_.Go.ChangeSpec) : _root_.Go.OpenSpec := { _root_.Go.OpenSpec.ofChange s with cond := some uptoSmall }

/-- 'ambidexterlaw01.RotationMatchesReference', WHERE WHAT IT READS IS OF BULK AT MOST 1048576: true; the input reads as it did. -/
def rotationMatchesReferenceUptoRow : OpenClaim := { program := "ytondobomjfanbaa", sum := "5c1e4a0074e2bb6e4680c428c873f578bd0781c55be0c268701de30622cdc209", func := "ambidexter/ambidexterlaw01.RotationMatchesReference", spec := "rotationMatchesReference", unfollowed := true, recurses := true, apart := false, narrowed := true }
def RotationMatchesReferenceUptoSaid : Prop := rotationMatchesReferenceUptoRow.holds Try.pinned (OpenSpec.upto rotationMatchesReferenceSpec)

/-- 'ambidexterlaw01.RotationOneRevolution', WHERE WHAT IT READS IS OF BULK AT MOST 1048576: true; the input reads as it did. -/
def rotationOneRevolutionUptoRow : OpenClaim := { program := "ytondobomjfanbaa", sum := "5c1e4a0074e2bb6e4680c428c873f578bd0781c55be0c268701de30622cdc209", func := "ambidexter/ambidexterlaw01.RotationOneRevolution", spec := "rotationOneRevolution", unfollowed := true, recurses := true, apart := false, narrowed := true }
def RotationOneRevolutionUptoSaid : Prop := rotationOneRevolutionUptoRow.holds Try.pinned (OpenSpec.upto rotationOneRevolutionSpec)

/-- 'ambidexterlaw01.RotationAllPairs', WHERE WHAT IT READS IS OF BULK AT MOST 1048576: true; the input reads as it did. -/
def rotationAllPairsUptoRow : OpenClaim := { program := "ytondobomjfanbaa", sum := "5c1e4a0074e2bb6e4680c428c873f578bd0781c55be0c268701de30622cdc209", func := "ambidexter/ambidexterlaw01.RotationAllPairs", spec := "rotationAllPairs", unfollowed := true, recurses := true, apart := false, narrowed := true }
def RotationAllPairsUptoSaid : Prop := rotationAllPairsUptoRow.holds Try.pinned (OpenSpec.upto rotationAllPairsSpec)

/-- 'ambidexterlaw01.RotationInverse', WHERE WHAT IT READS IS OF BULK AT MOST 1048576: true; the input reads as it did. -/
def rotationInverseUptoRow : OpenClaim := { program := "ytondobomjfanbaa", sum := "5c1e4a0074e2bb6e4680c428c873f578bd0781c55be0c268701de30622cdc209", func := "ambidexter/ambidexterlaw01.RotationInverse", spec := "rotationInverse", unfollowed := true, recurses := true, apart := false, narrowed := true }
def RotationInverseUptoSaid : Prop := rotationInverseUptoRow.holds Try.pinned (OpenSpec.upto rotationInverseSpec)

/-- 'ambidexterlaw01.RotationCommutes', WHERE WHAT IT READS IS OF BULK AT MOST 1048576: true; the input reads as it did. -/
def rotationCommutesUptoRow : OpenClaim := { program := "ytondobomjfanbaa", sum := "5c1e4a0074e2bb6e4680c428c873f578bd0781c55be0c268701de30622cdc209", func := "ambidexter/ambidexterlaw01.RotationCommutes", spec := "rotationCommutes", unfollowed := true, recurses := true, apart := false, narrowed := true }
def RotationCommutesUptoSaid : Prop := rotationCommutesUptoRow.holds Try.pinned (OpenSpec.upto rotationCommutesSpec)

/-- 'ambidexterlaw01.RotationOffsetLength', WHERE WHAT IT READS IS OF BULK AT MOST 1048576: true; the input reads as it did. -/
def rotationOffsetLengthUptoRow : OpenClaim := { program := "ytondobomjfanbaa", sum := "5c1e4a0074e2bb6e4680c428c873f578bd0781c55be0c268701de30622cdc209", func := "ambidexter/ambidexterlaw01.RotationOffsetLength", spec := "rotationOffsetLength", unfollowed := true, recurses := true, apart := false, narrowed := true }
def RotationOffsetLengthUptoSaid : Prop := rotationOffsetLengthUptoRow.holds Try.pinned (OpenSpec.upto rotationOffsetLengthSpec)

/-- 'ambidexterlaw01.RotationPreservesLength', WHERE WHAT IT READS IS OF BULK AT MOST 1048576: true; the input reads as it did. -/
def rotationPreservesLengthUptoRow : OpenClaim := { program := "ytondobomjfanbaa", sum := "5c1e4a0074e2bb6e4680c428c873f578bd0781c55be0c268701de30622cdc209", func := "ambidexter/ambidexterlaw01.RotationPreservesLength", spec := "rotationPreservesLength", unfollowed := true, recurses := true, apart := false, narrowed := true }
def RotationPreservesLengthUptoSaid : Prop := rotationPreservesLengthUptoRow.holds Try.pinned (OpenSpec.upto rotationPreservesLengthSpec)

end Rows
end Go.Proofs.Ytondobomjfanbaa
