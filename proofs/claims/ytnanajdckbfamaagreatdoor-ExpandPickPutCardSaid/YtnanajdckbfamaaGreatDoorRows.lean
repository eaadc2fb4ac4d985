/-
  NARROWER THAN 'FOR EVERY INPUT', by the rows' own cells (each row's printed sentence says how): ExpandMatchesReference: laid · ExpandStepsExecute: laid · ExpandPartsConserved: laid · ExpandConcatenation: laid · ExpandPickPut: laid · ExpandHandOver: laid.
  DERIVED. THE GIVEN ROWS OF THIS SEAT. 6 by the template 'for every input the law returns true; each argument reads behind the call as it read before'; 0 by the template 'total and deterministic' (their statements: YtnanajdckbfamaaGreatDoorTotals.lean).
  GIVEN WITH THE SEED: the statements are not yours to turn. If you find one false, say at which input.
  Laid BY PROGRAM, IN A SANDBOX (cutbox-rows.mjs): the forced cells as the released guide's own fill.sh prints them over the translation 2cd0c40a33097b42… (all of the seat's roots in one cut). By AI agents, Wed Nov 11 2026. No macro, syntax, notation, axiom, sorry.
-/
import Derived.Test.YtnanajdckbfamaaGreatDoorChecked
import GoSem.Claim
import GoSem.ClaimJoined
import GoSem.ClaimMapViews
import Derived.JoinedTies
import Derived.KernelRfl
namespace Go.Proofs.YtnanajdckbfamaaGreatDoor
/- THE CELL 'sum', in the pinned program and in every row, IS THE sha256 OF THE DUMP (.gsa) THAT YtnanajdckbfamaaGreatDoorProg.lean LOADS. Nothing in Lean hashes anything: it is a label: what it is worth is what the hold of that sum in a sandbox is worth. -/
noncomputable def Tryz.pinned : Pinned := { name := "ytnanajdckbfamaagreatdoor", sum := "2cd0c40a33097b42f555e6c70aab57bf478ea5ba1da3028ac004e4418be2e68b", checked := Tryz.checked }
namespace Rows
def none {H : Type} : Left H := { results := [], args := [] }

/- WHAT THE LISTED PACKAGE-LEVEL VARIABLES READ AS WHEN THE CALL BEGINS. Each datum BY PROGRAM (the guide's laid-datum.mjs) off the statement by which the dump's own 'gosem.cut.vars' lays the variable. In a bare row this is a premise. The card (YtnanajdckbfamaaGreatDoorCards.lean) ties it to the program's text. -/
def laid_errors_errorType {H : Type} : DataW H := .iface "internal/reflectlite.rtype" (.agg [.ptr (.lit (.string [101, 114, 114, 111, 114]))])

/-- 'ambidexterlaw13.ExpandMatchesReference': WHATEVER THE INPUT: true; the input reads as it did. -/
def expandMatchesReferenceSpec : ChangeSpec := { name := "expandMatchesReference", fn := fun _ => fun
  | [d1, d2, d3, d4] => { results := [.lit (.bool true)], args := [d1, d2, d3, d4] }
  | _ => none }
def expandMatchesReferenceRow : OpenClaim := { program := "ytnanajdckbfamaagreatdoor", sum := "2cd0c40a33097b42f555e6c70aab57bf478ea5ba1da3028ac004e4418be2e68b", func := "ambidexter/ambidexterlaw13.ExpandMatchesReference", spec := "expandMatchesReference", inPlace := ["internal/reflectlite.ValueOf", "(internal/reflectlite.Value).Type", "(internal/reflectlite.Value).IsNil", "internal/reflectlite.TypeOf", "(internal/reflectlite.Value).Elem", "(internal/reflectlite.Value).Set"], unfollowed := true, recurses := true, named := ["errors.errorType"], apart := false, laid := [("errors.errorType", laid_errors_errorType)] }
def ExpandMatchesReferenceSaid : Prop := expandMatchesReferenceRow.holds Tryz.pinned (OpenSpec.ofChange expandMatchesReferenceSpec)

/-- ITS FALSE NEIGHBOUR: 'it returns false'. Refute it at one input. -/
def expandMatchesReferenceWrong : ChangeSpec := { name := "expandMatchesReference", fn := fun _ => fun
  | [d1, d2, d3, d4] => { results := [.lit (.bool false)], args := [d1, d2, d3, d4] }
  | _ => none }
def ExpandMatchesReferenceWrongFalsely : Prop := expandMatchesReferenceRow.holds Tryz.pinned (OpenSpec.ofChange expandMatchesReferenceWrong)

/-- 'ambidexterlaw13.ExpandStepsExecute': WHATEVER THE INPUT: true; the input reads as it did. -/
def expandStepsExecuteSpec : ChangeSpec := { name := "expandStepsExecute", fn := fun _ => fun
  | [d1, d2] => { results := [.lit (.bool true)], args := [d1, d2] }
  | _ => none }
def expandStepsExecuteRow : OpenClaim := { program := "ytnanajdckbfamaagreatdoor", sum := "2cd0c40a33097b42f555e6c70aab57bf478ea5ba1da3028ac004e4418be2e68b", func := "ambidexter/ambidexterlaw13.ExpandStepsExecute", spec := "expandStepsExecute", inPlace := ["internal/reflectlite.ValueOf", "(internal/reflectlite.Value).Type", "(internal/reflectlite.Value).IsNil", "internal/reflectlite.TypeOf", "(internal/reflectlite.Value).Elem", "(internal/reflectlite.Value).Set"], unfollowed := true, recurses := true, named := ["errors.errorType"], apart := false, laid := [("errors.errorType", laid_errors_errorType)] }
def ExpandStepsExecuteSaid : Prop := expandStepsExecuteRow.holds Tryz.pinned (OpenSpec.ofChange expandStepsExecuteSpec)

/-- ITS FALSE NEIGHBOUR: 'it returns false'. Refute it at one input. -/
def expandStepsExecuteWrong : ChangeSpec := { name := "expandStepsExecute", fn := fun _ => fun
  | [d1, d2] => { results := [.lit (.bool false)], args := [d1, d2] }
  | _ => none }
def ExpandStepsExecuteWrongFalsely : Prop := expandStepsExecuteRow.holds Tryz.pinned (OpenSpec.ofChange expandStepsExecuteWrong)

/-- 'ambidexterlaw13.ExpandPartsConserved': WHATEVER THE INPUT: true; the input reads as it did. -/
def expandPartsConservedSpec : ChangeSpec := { name := "expandPartsConserved", fn := fun _ => fun
  | [d1, d2, d3, d4, d5, d6] => { results := [.lit (.bool true)], args := [d1, d2, d3, d4, d5, d6] }
  | _ => none }
def expandPartsConservedRow : OpenClaim := { program := "ytnanajdckbfamaagreatdoor", sum := "2cd0c40a33097b42f555e6c70aab57bf478ea5ba1da3028ac004e4418be2e68b", func := "ambidexter/ambidexterlaw13.ExpandPartsConserved", spec := "expandPartsConserved", inPlace := ["internal/reflectlite.ValueOf", "(internal/reflectlite.Value).Type", "(internal/reflectlite.Value).IsNil", "internal/reflectlite.TypeOf", "(internal/reflectlite.Value).Elem", "(internal/reflectlite.Value).Set"], unfollowed := true, recurses := true, named := ["errors.errorType"], apart := false, laid := [("errors.errorType", laid_errors_errorType)] }
def ExpandPartsConservedSaid : Prop := expandPartsConservedRow.holds Tryz.pinned (OpenSpec.ofChange expandPartsConservedSpec)

/-- ITS FALSE NEIGHBOUR: 'it returns false'. Refute it at one input. -/
def expandPartsConservedWrong : ChangeSpec := { name := "expandPartsConserved", fn := fun _ => fun
  | [d1, d2, d3, d4, d5, d6] => { results := [.lit (.bool false)], args := [d1, d2, d3, d4, d5, d6] }
  | _ => none }
def ExpandPartsConservedWrongFalsely : Prop := expandPartsConservedRow.holds Tryz.pinned (OpenSpec.ofChange expandPartsConservedWrong)

/-- 'ambidexterlaw13.ExpandConcatenation': WHATEVER THE INPUT: true; the input reads as it did. -/
def expandConcatenationSpec : ChangeSpec := { name := "expandConcatenation", fn := fun _ => fun
  | [d1, d2, d3] => { results := [.lit (.bool true)], args := [d1, d2, d3] }
  | _ => none }
def expandConcatenationRow : OpenClaim := { program := "ytnanajdckbfamaagreatdoor", sum := "2cd0c40a33097b42f555e6c70aab57bf478ea5ba1da3028ac004e4418be2e68b", func := "ambidexter/ambidexterlaw13.ExpandConcatenation", spec := "expandConcatenation", inPlace := ["internal/reflectlite.ValueOf", "(internal/reflectlite.Value).Type", "(internal/reflectlite.Value).IsNil", "internal/reflectlite.TypeOf", "(internal/reflectlite.Value).Elem", "(internal/reflectlite.Value).Set"], unfollowed := true, recurses := true, named := ["errors.errorType"], apart := false, laid := [("errors.errorType", laid_errors_errorType)] }
def ExpandConcatenationSaid : Prop := expandConcatenationRow.holds Tryz.pinned (OpenSpec.ofChange expandConcatenationSpec)

/-- ITS FALSE NEIGHBOUR: 'it returns false'. Refute it at one input. -/
def expandConcatenationWrong : ChangeSpec := { name := "expandConcatenation", fn := fun _ => fun
  | [d1, d2, d3] => { results := [.lit (.bool false)], args := [d1, d2, d3] }
  | _ => none }
def ExpandConcatenationWrongFalsely : Prop := expandConcatenationRow.holds Tryz.pinned (OpenSpec.ofChange expandConcatenationWrong)

/-- 'ambidexterlaw13.ExpandPickPut': WHATEVER THE INPUT: true; the input reads as it did. -/
def expandPickPutSpec : ChangeSpec := { name := "expandPickPut", fn := fun _ => fun
  | [d1, d2, d3, d4] => { results := [.lit (.bool true)], args := [d1, d2, d3, d4] }
  | _ => none }
def expandPickPutRow : OpenClaim := { program := "ytnanajdckbfamaagreatdoor", sum := "2cd0c40a33097b42f555e6c70aab57bf478ea5ba1da3028ac004e4418be2e68b", func := "ambidexter/ambidexterlaw13.ExpandPickPut", spec := "expandPickPut", inPlace := ["internal/reflectlite.ValueOf", "(internal/reflectlite.Value).Type", "(internal/reflectlite.Value).IsNil", "internal/reflectlite.TypeOf", "(internal/reflectlite.Value).Elem", "(internal/reflectlite.Value).Set"], unfollowed := true, recurses := true, named := ["errors.errorType"], apart := false, laid := [("errors.errorType", laid_errors_errorType)] }
def ExpandPickPutSaid : Prop := expandPickPutRow.holds Tryz.pinned (OpenSpec.ofChange expandPickPutSpec)

/-- ITS FALSE NEIGHBOUR: 'it returns false'. Refute it at one input. -/
def expandPickPutWrong : ChangeSpec := { name := "expandPickPut", fn := fun _ => fun
  | [d1, d2, d3, d4] => { results := [.lit (.bool false)], args := [d1, d2, d3, d4] }
  | _ => none }
def ExpandPickPutWrongFalsely : Prop := expandPickPutRow.holds Tryz.pinned (OpenSpec.ofChange expandPickPutWrong)

/-- 'ambidexterlaw13.ExpandHandOver': WHATEVER THE INPUT: true; the input reads as it did. -/
def expandHandOverSpec : ChangeSpec := { name := "expandHandOver", fn := fun _ => fun
  | [d1, d2, d3, d4] => { results := [.lit (.bool true)], args := [d1, d2, d3, d4] }
  | _ => none }
def expandHandOverRow : OpenClaim := { program := "ytnanajdckbfamaagreatdoor", sum := "2cd0c40a33097b42f555e6c70aab57bf478ea5ba1da3028ac004e4418be2e68b", func := "ambidexter/ambidexterlaw13.ExpandHandOver", spec := "expandHandOver", inPlace := ["internal/reflectlite.ValueOf", "(internal/reflectlite.Value).Type", "(internal/reflectlite.Value).IsNil", "internal/reflectlite.TypeOf", "(internal/reflectlite.Value).Elem", "(internal/reflectlite.Value).Set"], unfollowed := true, recurses := true, named := ["errors.errorType"], apart := false, laid := [("errors.errorType", laid_errors_errorType)] }
def ExpandHandOverSaid : Prop := expandHandOverRow.holds Tryz.pinned (OpenSpec.ofChange expandHandOverSpec)

/-- ITS FALSE NEIGHBOUR: 'it returns false'. Refute it at one input. -/
def expandHandOverWrong : ChangeSpec := { name := "expandHandOver", fn := fun _ => fun
  | [d1, d2, d3, d4] => { results := [.lit (.bool false)], args := [d1, d2, d3, d4] }
  | _ => none }
def ExpandHandOverWrongFalsely : Prop := expandHandOverRow.holds Tryz.pinned (OpenSpec.ofChange expandHandOverWrong)

/- THE SECOND FORM. 'bulk': how many values and letters a reading holds, each counted each time it is reached (what is shared counts as often as it is met; a slice's spare places count too). A statement '..UptoSaid' is the law's where the arguments, and the package variables that the reading takes, are together of bulk at most 1048576: NARROWER than '..Said'. Prove '..Said' where nothing that the law and all that it calls make is longer than what came in: it says more and counts as full. Else prove '..UptoSaid'. A law counts once. -/
mutual
def uptoBulk {H : Type} : DataW H → Nat
  | .lit (.string bytes) => bytes.length + 1
  | .lit _ => 1
  | .nil => 1
  | .ptr d => uptoBulk d + 1
  | .slice elems spare => uptoBulkAll elems + uptoBulkAll spare + 1
  | .agg parts => uptoBulkAll parts + 1
  | .iface _ d => uptoBulk d + 1
  | .map entries => uptoBulkEntries entries + 1
  | .held _ => 1
def uptoBulkAll {H : Type} : List (DataW H) → Nat
  | [] => 0
  | d :: r => uptoBulk d + uptoBulkAll r
def uptoBulkEntries {H : Type} : List (Lit × DataW H) → Nat
  | [] => 0
  | x :: r => uptoBulkEntry x + uptoBulkEntries r
def uptoBulkEntry {H : Type} : Lit × DataW H → Nat
  | (.string bytes, d) => bytes.length + uptoBulk d + 1
  | (_, d) => uptoBulk d + 1
 end
def uptoSmall : (H : Type) → List (DataW H) → Bool := fun _ ds => decide (uptoBulkAll ds ≤ 1048576)
def OpenSpec.upto (s : _root_.Go.ChangeSpec) : _root_.Go.OpenSpec := { _root_.Go.OpenSpec.ofChange s with cond := some uptoSmall }

/-- 'ambidexterlaw13.ExpandMatchesReference', WHERE WHAT IT READS IS OF BULK AT MOST 1048576: true; the input reads as it did. -/
def expandMatchesReferenceUptoRow : OpenClaim := { program := "ytnanajdckbfamaagreatdoor", sum := "2cd0c40a33097b42f555e6c70aab57bf478ea5ba1da3028ac004e4418be2e68b", func := "ambidexter/ambidexterlaw13.ExpandMatchesReference", spec := "expandMatchesReference", inPlace := ["internal/reflectlite.ValueOf", "(internal/reflectlite.Value).Type", "(internal/reflectlite.Value).IsNil", "internal/reflectlite.TypeOf", "(internal/reflectlite.Value).Elem", "(internal/reflectlite.Value).Set"], unfollowed := true, recurses := true, named := ["errors.errorType"], apart := false, laid := [("errors.errorType", laid_errors_errorType)], narrowed := true }
def ExpandMatchesReferenceUptoSaid : Prop := expandMatchesReferenceUptoRow.holds Tryz.pinned (OpenSpec.upto expandMatchesReferenceSpec)

/-- 'ambidexterlaw13.ExpandStepsExecute', WHERE WHAT IT READS IS OF BULK AT MOST 1048576: true; the input reads as it did. -/
def expandStepsExecuteUptoRow : OpenClaim := { program := "ytnanajdckbfamaagreatdoor", sum := "2cd0c40a33097b42f555e6c70aab57bf478ea5ba1da3028ac004e4418be2e68b", func := "ambidexter/ambidexterlaw13.ExpandStepsExecute", spec := "expandStepsExecute", inPlace := ["internal/reflectlite.ValueOf", "(internal/reflectlite.Value).Type", "(internal/reflectlite.Value).IsNil", "internal/reflectlite.TypeOf", "(internal/reflectlite.Value).Elem", "(internal/reflectlite.Value).Set"], unfollowed := true, recurses := true, named := ["errors.errorType"], apart := false, laid := [("errors.errorType", laid_errors_errorType)], narrowed := true }
def ExpandStepsExecuteUptoSaid : Prop := expandStepsExecuteUptoRow.holds Tryz.pinned (OpenSpec.upto expandStepsExecuteSpec)

/-- 'ambidexterlaw13.ExpandPartsConserved', WHERE WHAT IT READS IS OF BULK AT MOST 1048576: true; the input reads as it did. -/
def expandPartsConservedUptoRow : OpenClaim := { program := "ytnanajdckbfamaagreatdoor", sum := "2cd0c40a33097b42f555e6c70aab57bf478ea5ba1da3028ac004e4418be2e68b", func := "ambidexter/ambidexterlaw13.ExpandPartsConserved", spec := "expandPartsConserved", inPlace := ["internal/reflectlite.ValueOf", "(internal/reflectlite.Value).Type", "(internal/reflectlite.Value).IsNil", "internal/reflectlite.TypeOf", "(internal/reflectlite.Value).Elem", "(internal/reflectlite.Value).Set"], unfollowed := true, recurses := true, named := ["errors.errorType"], apart := false, laid := [("errors.errorType", laid_errors_errorType)], narrowed := true }
def ExpandPartsConservedUptoSaid : Prop := expandPartsConservedUptoRow.holds Tryz.pinned (OpenSpec.upto expandPartsConservedSpec)

/-- 'ambidexterlaw13.ExpandConcatenation', WHERE WHAT IT READS IS OF BULK AT MOST 1048576: true; the input reads as it did. -/
def expandConcatenationUptoRow : OpenClaim := { program := "ytnanajdckbfamaagreatdoor", sum := "2cd0c40a33097b42f555e6c70aab57bf478ea5ba1da3028ac004e4418be2e68b", func := "ambidexter/ambidexterlaw13.ExpandConcatenation", spec := "expandConcatenation", inPlace := ["internal/reflectlite.ValueOf", "(internal/reflectlite.Value).Type", "(internal/reflectlite.Value).IsNil", "internal/reflectlite.TypeOf", "(internal/reflectlite.Value).Elem", "(internal/reflectlite.Value).Set"], unfollowed := true, recurses := true, named := ["errors.errorType"], apart := false, laid := [("errors.errorType", laid_errors_errorType)], narrowed := true }
def ExpandConcatenationUptoSaid : Prop := expandConcatenationUptoRow.holds Tryz.pinned (OpenSpec.upto expandConcatenationSpec)

/-- 'ambidexterlaw13.ExpandPickPut', WHERE WHAT IT READS IS OF BULK AT MOST 1048576: true; the input reads as it did. -/
def expandPickPutUptoRow : OpenClaim := { program := "ytnanajdckbfamaagreatdoor", sum := "2cd0c40a33097b42f555e6c70aab57bf478ea5ba1da3028ac004e4418be2e68b", func := "ambidexter/ambidexterlaw13.ExpandPickPut", spec := "expandPickPut", inPlace := ["internal/reflectlite.ValueOf", "(internal/reflectlite.Value).Type", "(internal/reflectlite.Value).IsNil", "internal/reflectlite.TypeOf", "(internal/reflectlite.Value).Elem", "(internal/reflectlite.Value).Set"], unfollowed := true, recurses := true, named := ["errors.errorType"], apart := false, laid := [("errors.errorType", laid_errors_errorType)], narrowed := true }
def ExpandPickPutUptoSaid : Prop := expandPickPutUptoRow.holds Tryz.pinned (OpenSpec.upto expandPickPutSpec)

/-- 'ambidexterlaw13.ExpandHandOver', WHERE WHAT IT READS IS OF BULK AT MOST 1048576: true; the input reads as it did. -/
def expandHandOverUptoRow : OpenClaim := { program := "ytnanajdckbfamaagreatdoor", sum := "2cd0c40a33097b42f555e6c70aab57bf478ea5ba1da3028ac004e4418be2e68b", func := "ambidexter/ambidexterlaw13.ExpandHandOver", spec := "expandHandOver", inPlace := ["internal/reflectlite.ValueOf", "(internal/reflectlite.Value).Type", "(internal/reflectlite.Value).IsNil", "internal/reflectlite.TypeOf", "(internal/reflectlite.Value).Elem", "(internal/reflectlite.Value).Set"], unfollowed := true, recurses := true, named := ["errors.errorType"], apart := false, laid := [("errors.errorType", laid_errors_errorType)], narrowed := true }
def ExpandHandOverUptoSaid : Prop := expandHandOverUptoRow.holds Tryz.pinned (OpenSpec.upto expandHandOverSpec)

end Rows
end Go.Proofs.YtnanajdckbfamaaGreatDoor
