/-
  No cell of these rows narrows 'for every input' (looked for: loops, veiled, ifaces, maps, wideKeys, modest, calm, conditions, laid).
  DERIVED. THE GIVEN ROWS OF THIS SEAT. 7 by the template 'for every input the law returns true; each argument reads behind the call as it read before'; 0 by the template 'total and deterministic' (their statements: YtbnmdfappoeipaaTotals.lean).
  GIVEN WITH THE SEED: the statements are not yours to turn. If you find one false, say at which input.
  Laid BY PROGRAM, IN A SANDBOX (cutbox-rows.mjs): the forced cells as the released guide's own fill.sh prints them over the translation ea00080fd7611388… (all of the seat's roots in one cut). By AI agents, Wed Nov 11 2026. No macro, syntax, notation, axiom, sorry.
-/
import Derived.Test.YtbnmdfappoeipaaChecked
import GoSem.Claim
import GoSem.ClaimJoined
import GoSem.ClaimMapViews
import Derived.JoinedTies
import Derived.KernelRfl
namespace Go.Proofs.Ytbnmdfappoeipaa
/- THE CELL 'sum', in the pinned program and in every row, IS THE sha256 OF THE DUMP (.gsa) THAT YtbnmdfappoeipaaProg.lean LOADS. Nothing in Lean hashes anything: it is a label: what it is worth is what the hold of that sum in a sandbox is worth. -/
noncomputable def Try.pinned : Pinned := { name := "ytbnmdfappoeipaa", sum := "ea00080fd7611388157de9a83f98366d468e58b332631e94433c3a279b79e6c4", checked := Try.checked }
namespace Rows
def none {H : Type} : Left H := { results := [], args := [] }

/-- 'ambidexterlaw29.SupervisorMatchesReference': WHATEVER THE INPUT: true; the input reads as it did. -/
def supervisorMatchesReferenceSpec : ChangeSpec := { name := "supervisorMatchesReference", fn := fun _ => fun
  | [d1, d2, d3] => { results := [.lit (.bool true)], args := [d1, d2, d3] }
  | _ => none }
def supervisorMatchesReferenceRow : OpenClaim := { program := "ytbnmdfappoeipaa", sum := "ea00080fd7611388157de9a83f98366d468e58b332631e94433c3a279b79e6c4", func := "ambidexter/ambidexterlaw29.SupervisorMatchesReference", spec := "supervisorMatchesReference", unfollowed := true, recurses := true, apart := false }
def SupervisorMatchesReferenceSaid : Prop := supervisorMatchesReferenceRow.holds Try.pinned (OpenSpec.ofChange supervisorMatchesReferenceSpec)

/-- ITS FALSE NEIGHBOUR: 'it returns false'. Refute it at one input. -/
def supervisorMatchesReferenceWrong : ChangeSpec := { name := "supervisorMatchesReference", fn := fun _ => fun
  | [d1, d2, d3] => { results := [.lit (.bool false)], args := [d1, d2, d3] }
  | _ => none }
def SupervisorMatchesReferenceWrongFalsely : Prop := supervisorMatchesReferenceRow.holds Try.pinned (OpenSpec.ofChange supervisorMatchesReferenceWrong)

/-- 'ambidexterlaw29.SupervisorStateStaysValid': WHATEVER THE INPUT: true; the input reads as it did. -/
def supervisorStateStaysValidSpec : ChangeSpec := { name := "supervisorStateStaysValid", fn := fun _ => fun
  | [d1, d2] => { results := [.lit (.bool true)], args := [d1, d2] }
  | _ => none }
def supervisorStateStaysValidRow : OpenClaim := { program := "ytbnmdfappoeipaa", sum := "ea00080fd7611388157de9a83f98366d468e58b332631e94433c3a279b79e6c4", func := "ambidexter/ambidexterlaw29.SupervisorStateStaysValid", spec := "supervisorStateStaysValid", unfollowed := true, recurses := true, apart := false }
def SupervisorStateStaysValidSaid : Prop := supervisorStateStaysValidRow.holds Try.pinned (OpenSpec.ofChange supervisorStateStaysValidSpec)

/-- ITS FALSE NEIGHBOUR: 'it returns false'. Refute it at one input. -/
def supervisorStateStaysValidWrong : ChangeSpec := { name := "supervisorStateStaysValid", fn := fun _ => fun
  | [d1, d2] => { results := [.lit (.bool false)], args := [d1, d2] }
  | _ => none }
def SupervisorStateStaysValidWrongFalsely : Prop := supervisorStateStaysValidRow.holds Try.pinned (OpenSpec.ofChange supervisorStateStaysValidWrong)

/-- 'ambidexterlaw29.SupervisorNoContinueBeforeRelease': WHATEVER THE INPUT: true; the input reads as it did. -/
def supervisorNoContinueBeforeReleaseSpec : ChangeSpec := { name := "supervisorNoContinueBeforeRelease", fn := fun _ => fun
  | [d1, d2, d3] => { results := [.lit (.bool true)], args := [d1, d2, d3] }
  | _ => none }
def supervisorNoContinueBeforeReleaseRow : OpenClaim := { program := "ytbnmdfappoeipaa", sum := "ea00080fd7611388157de9a83f98366d468e58b332631e94433c3a279b79e6c4", func := "ambidexter/ambidexterlaw29.SupervisorNoContinueBeforeRelease", spec := "supervisorNoContinueBeforeRelease", unfollowed := true, recurses := true, apart := false }
def SupervisorNoContinueBeforeReleaseSaid : Prop := supervisorNoContinueBeforeReleaseRow.holds Try.pinned (OpenSpec.ofChange supervisorNoContinueBeforeReleaseSpec)

/-- ITS FALSE NEIGHBOUR: 'it returns false'. Refute it at one input. -/
def supervisorNoContinueBeforeReleaseWrong : ChangeSpec := { name := "supervisorNoContinueBeforeRelease", fn := fun _ => fun
  | [d1, d2, d3] => { results := [.lit (.bool false)], args := [d1, d2, d3] }
  | _ => none }
def SupervisorNoContinueBeforeReleaseWrongFalsely : Prop := supervisorNoContinueBeforeReleaseRow.holds Try.pinned (OpenSpec.ofChange supervisorNoContinueBeforeReleaseWrong)

/-- 'ambidexterlaw29.SupervisorCategoryNeverImproves': WHATEVER THE INPUT: true; the input reads as it did. -/
def supervisorCategoryNeverImprovesSpec : ChangeSpec := { name := "supervisorCategoryNeverImproves", fn := fun _ => fun
  | [d1, d2] => { results := [.lit (.bool true)], args := [d1, d2] }
  | _ => none }
def supervisorCategoryNeverImprovesRow : OpenClaim := { program := "ytbnmdfappoeipaa", sum := "ea00080fd7611388157de9a83f98366d468e58b332631e94433c3a279b79e6c4", func := "ambidexter/ambidexterlaw29.SupervisorCategoryNeverImproves", spec := "supervisorCategoryNeverImproves", unfollowed := true, recurses := true, apart := false }
def SupervisorCategoryNeverImprovesSaid : Prop := supervisorCategoryNeverImprovesRow.holds Try.pinned (OpenSpec.ofChange supervisorCategoryNeverImprovesSpec)

/-- ITS FALSE NEIGHBOUR: 'it returns false'. Refute it at one input. -/
def supervisorCategoryNeverImprovesWrong : ChangeSpec := { name := "supervisorCategoryNeverImproves", fn := fun _ => fun
  | [d1, d2] => { results := [.lit (.bool false)], args := [d1, d2] }
  | _ => none }
def SupervisorCategoryNeverImprovesWrongFalsely : Prop := supervisorCategoryNeverImprovesRow.holds Try.pinned (OpenSpec.ofChange supervisorCategoryNeverImprovesWrong)

/-- 'ambidexterlaw29.SupervisorStopTerminates': WHATEVER THE INPUT: true; the input reads as it did. -/
def supervisorStopTerminatesSpec : ChangeSpec := { name := "supervisorStopTerminates", fn := fun _ => fun
  | [d1, d2, d3] => { results := [.lit (.bool true)], args := [d1, d2, d3] }
  | _ => none }
def supervisorStopTerminatesRow : OpenClaim := { program := "ytbnmdfappoeipaa", sum := "ea00080fd7611388157de9a83f98366d468e58b332631e94433c3a279b79e6c4", func := "ambidexter/ambidexterlaw29.SupervisorStopTerminates", spec := "supervisorStopTerminates", unfollowed := true, recurses := true, apart := false }
def SupervisorStopTerminatesSaid : Prop := supervisorStopTerminatesRow.holds Try.pinned (OpenSpec.ofChange supervisorStopTerminatesSpec)

/-- ITS FALSE NEIGHBOUR: 'it returns false'. Refute it at one input. -/
def supervisorStopTerminatesWrong : ChangeSpec := { name := "supervisorStopTerminates", fn := fun _ => fun
  | [d1, d2, d3] => { results := [.lit (.bool false)], args := [d1, d2, d3] }
  | _ => none }
def SupervisorStopTerminatesWrongFalsely : Prop := supervisorStopTerminatesRow.holds Try.pinned (OpenSpec.ofChange supervisorStopTerminatesWrong)

/-- 'ambidexterlaw29.SupervisorStartConditions': WHATEVER THE INPUT: true; the input reads as it did. -/
def supervisorStartConditionsSpec : ChangeSpec := { name := "supervisorStartConditions", fn := fun _ => fun
  | [d1, d2] => { results := [.lit (.bool true)], args := [d1, d2] }
  | _ => none }
def supervisorStartConditionsRow : OpenClaim := { program := "ytbnmdfappoeipaa", sum := "ea00080fd7611388157de9a83f98366d468e58b332631e94433c3a279b79e6c4", func := "ambidexter/ambidexterlaw29.SupervisorStartConditions", spec := "supervisorStartConditions", unfollowed := true, recurses := true, apart := false }
def SupervisorStartConditionsSaid : Prop := supervisorStartConditionsRow.holds Try.pinned (OpenSpec.ofChange supervisorStartConditionsSpec)

/-- ITS FALSE NEIGHBOUR: 'it returns false'. Refute it at one input. -/
def supervisorStartConditionsWrong : ChangeSpec := { name := "supervisorStartConditions", fn := fun _ => fun
  | [d1, d2] => { results := [.lit (.bool false)], args := [d1, d2] }
  | _ => none }
def SupervisorStartConditionsWrongFalsely : Prop := supervisorStartConditionsRow.holds Try.pinned (OpenSpec.ofChange supervisorStartConditionsWrong)

/-- 'ambidexterlaw29.SupervisorBrakeTestAge': WHATEVER THE INPUT: true; the input reads as it did. -/
def supervisorBrakeTestAgeSpec : ChangeSpec := { name := "supervisorBrakeTestAge", fn := fun _ => fun
  | [d1, d2] => { results := [.lit (.bool true)], args := [d1, d2] }
  | _ => none }
def supervisorBrakeTestAgeRow : OpenClaim := { program := "ytbnmdfappoeipaa", sum := "ea00080fd7611388157de9a83f98366d468e58b332631e94433c3a279b79e6c4", func := "ambidexter/ambidexterlaw29.SupervisorBrakeTestAge", spec := "supervisorBrakeTestAge", unfollowed := true, recurses := true, apart := false }
def SupervisorBrakeTestAgeSaid : Prop := supervisorBrakeTestAgeRow.holds Try.pinned (OpenSpec.ofChange supervisorBrakeTestAgeSpec)

/-- ITS FALSE NEIGHBOUR: 'it returns false'. Refute it at one input. -/
def supervisorBrakeTestAgeWrong : ChangeSpec := { name := "supervisorBrakeTestAge", fn := fun _ => fun
  | [d1, d2] => { results := [.lit (.bool false)], args := [d1, d2] }
  | _ => none }
def SupervisorBrakeTestAgeWrongFalsely : Prop := supervisorBrakeTestAgeRow.holds Try.pinned (OpenSpec.ofChange supervisorBrakeTestAgeWrong)

/- THE SECOND FORM. 'bulk': how many values and letters a reading holds, each counted each time it is reached (what is shared counts as often as it is met; a slice's spare places count too). A statement '..UptoSaid' is the law's where the arguments, and the package variables that the reading takes, are together of bulk at most 1048576: NARROWER than '..Said'. Prove '..Said' where nothing that the law and all that it calls make is longer than what came in: it says more and counts as full. Else prove '..UptoSaid'. A law counts once. -/
mutual
def uptoBulk {H : Type} : DataW H → Nat
  | .lit (.string bytes) => bytes.length + 1
  | .lit _ => 1
  | .nil => 1
  | .ptr d => uptoBulk d + 1
  | .slice elems spare => uptoBulkAll elems + uptoBulkAll spare + 1
  | .agg parts => uptoBulkAll parts + 1
  | .iface _ d => uptoBulk d + 1
  | .map entries => uptoBulkEntries entries + 1
  | .held _ => 1
def uptoBulkAll {H : Type} : List (DataW H) → Nat
  | [] => 0
  | d :: r => uptoBulk d + uptoBulkAll r
def uptoBulkEntries {H : Type} : List (Lit × DataW H) → Nat
  | [] => 0
  | x :: r => uptoBulkEntry x + uptoBulkEntries r
def uptoBulkEntry {H : Type} : Lit × DataW H → Nat
  | (.string bytes, d) => bytes.length + uptoBulk d + 1
  | (_, d) => uptoBulk d + 1
 end
def uptoSmall : (H : Type) → List (DataW H) → Bool := fun _ ds => decide (uptoBulkAll ds ≤ 1048576)
def OpenSpec.upto (s : _root_.Go.ChangeSpec) : _root_.Go.OpenSpec := { _root_.Go.OpenSpec.ofChange s with cond := some uptoSmall }

/-- 'ambidexterlaw29.SupervisorMatchesReference', WHERE WHAT IT READS IS OF BULK AT MOST 1048576: true; the input reads as it did. -/
def supervisorMatchesReferenceUptoRow : OpenClaim := { program := "ytbnmdfappoeipaa", sum := "ea00080fd7611388157de9a83f98366d468e58b332631e94433c3a279b79e6c4", func := "ambidexter/ambidexterlaw29.SupervisorMatchesReference", spec := "supervisorMatchesReference", unfollowed := true, recurses := true, apart := false, narrowed := true }
def SupervisorMatchesReferenceUptoSaid : Prop := supervisorMatchesReferenceUptoRow.holds Try.pinned (OpenSpec.upto supervisorMatchesReferenceSpec)

/-- 'ambidexterlaw29.SupervisorStateStaysValid', WHERE WHAT IT READS IS OF BULK AT MOST 1048576: true; the input reads as it did. -/
def supervisorStateStaysValidUptoRow : OpenClaim := { program := "ytbnmdfappoeipaa", sum := "ea00080fd7611388157de9a83f98366d468e58b332631e94433c3a279b79e6c4", func := "ambidexter/ambidexterlaw29.SupervisorStateStaysValid", spec := "supervisorStateStaysValid", unfollowed := true, recurses := true, apart := false, narrowed := true }
def SupervisorStateStaysValidUptoSaid : Prop := supervisorStateStaysValidUptoRow.holds Try.pinned (OpenSpec.upto supervisorStateStaysValidSpec)

/-- 'ambidexterlaw29.SupervisorNoContinueBeforeRelease', WHERE WHAT IT READS IS OF BULK AT MOST 1048576: true; the input reads as it did. -/
def supervisorNoContinueBeforeReleaseUptoRow : OpenClaim := { program := "ytbnmdfappoeipaa", sum := "ea00080fd7611388157de9a83f98366d468e58b332631e94433c3a279b79e6c4", func := "ambidexter/ambidexterlaw29.SupervisorNoContinueBeforeRelease", spec := "supervisorNoContinueBeforeRelease", unfollowed := true, recurses := true, apart := false, narrowed := true }
def SupervisorNoContinueBeforeReleaseUptoSaid : Prop := supervisorNoContinueBeforeReleaseUptoRow.holds Try.pinned (OpenSpec.upto supervisorNoContinueBeforeReleaseSpec)

/-- 'ambidexterlaw29.SupervisorCategoryNeverImproves', WHERE WHAT IT READS IS OF BULK AT MOST 1048576: true; the input reads as it did. -/
def supervisorCategoryNeverImprovesUptoRow : OpenClaim := { program := "ytbnmdfappoeipaa", sum := "ea00080fd7611388157de9a83f98366d468e58b332631e94433c3a279b79e6c4", func := "ambidexter/ambidexterlaw29.SupervisorCategoryNeverImproves", spec := "supervisorCategoryNeverImproves", unfollowed := true, recurses := true, apart := false, narrowed := true }
def SupervisorCategoryNeverImprovesUptoSaid : Prop := supervisorCategoryNeverImprovesUptoRow.holds Try.pinned (OpenSpec.upto supervisorCategoryNeverImprovesSpec)

/-- 'ambidexterlaw29.SupervisorStopTerminates', WHERE WHAT IT READS IS OF BULK AT MOST 1048576: true; the input reads as it did. -/
def supervisorStopTerminatesUptoRow : OpenClaim := { program := "ytbnmdfappoeipaa", sum := "ea00080fd7611388157de9a83f98366d468e58b332631e94433c3a279b79e6c4", func := "ambidexter/ambidexterlaw29.SupervisorStopTerminates", spec := "supervisorStopTerminates", unfollowed := true, recurses := true, apart := false, narrowed := true }
def SupervisorStopTerminatesUptoSaid : Prop := supervisorStopTerminatesUptoRow.holds Try.pinned (OpenSpec.upto supervisorStopTerminatesSpec)

/-- 'ambidexterlaw29.SupervisorStartConditions', WHERE WHAT IT READS IS OF BULK AT MOST 1048576: true; the input reads as it did. -/
def supervisorStartConditionsUptoRow : OpenClaim := { program := "ytbnmdfappoeipaa", sum := "ea00080fd7611388157de9a83f98366d468e58b332631e94433c3a279b79e6c4", func := "ambidexter/ambidexterlaw29.SupervisorStartConditions", spec := "supervisorStartConditions", unfollowed := true, recurses := true, apart := false, narrowed := true }
def SupervisorStartConditionsUptoSaid : Prop := supervisorStartConditionsUptoRow.holds Try.pinned (OpenSpec.upto supervisorStartConditionsSpec)

/-- 'ambidexterlaw29.SupervisorBrakeTestAge', WHERE WHAT IT READS IS OF BULK AT MOST 1048576: true; the input reads as it did. -/
def supervisorBrakeTestAgeUptoRow : OpenClaim := { program := "ytbnmdfappoeipaa", sum := "ea00080fd7611388157de9a83f98366d468e58b332631e94433c3a279b79e6c4", func := "ambidexter/ambidexterlaw29.SupervisorBrakeTestAge", spec := "supervisorBrakeTestAge", unfollowed := true, recurses := true, apart := false, narrowed := true }
def SupervisorBrakeTestAgeUptoSaid : Prop := supervisorBrakeTestAgeUptoRow.holds Try.pinned (OpenSpec.upto supervisorBrakeTestAgeSpec)

end Rows
end Go.Proofs.Ytbnmdfappoeipaa
