/-
  No cell of these rows narrows 'for every input' (looked for: loops, veiled, ifaces, maps, wideKeys, modest, calm, conditions, laid).
  DERIVED. THE GIVEN ROWS OF THIS SEAT. 7 by the template 'for every input the law returns true; each argument reads behind the call as it read before'; 0 by the template 'total and deterministic' (their statements: YtajdhkchgidjmaaTotals.lean).
  GIVEN WITH THE SEED: the statements are not yours to turn. If you find one false, say at which input.
  Laid BY PROGRAM, IN A SANDBOX (cutbox-rows.mjs): the forced cells as the released guide's own fill.sh prints them over the translation 6226cf90971d02ca… (all of the seat's roots in one cut). By AI agents, Wed Nov 11 2026. No macro, syntax, notation, axiom, sorry.
-/
import Derived.Test.YtajdhkchgidjmaaChecked
import GoSem.Claim
import GoSem.ClaimJoined
import GoSem.ClaimMapViews
import Derived.JoinedTies
import Derived.KernelRfl
namespace Go.Proofs.Ytajdhkchgidjmaa
/- THE CELL 'sum', in the pinned program and in every row, IS THE sha256 OF THE DUMP (.gsa) THAT YtajdhkchgidjmaaProg.lean LOADS. Nothing in Lean hashes anything: it is a label: what it is worth is what the hold of that sum in a sandbox is worth. -/
noncomputable def Try.pinned : Pinned := { name := "ytajdhkchgidjmaa", sum := "6226cf90971d02cacb8baa35398c4cb2d67d9c3c74c1ed205b9e2a93b18cfdce", checked := Try.checked }
namespace Rows
def none {H : Type} : Left H := { results := [], args := [] }

/-- 'ambidexterlaw08.InvkinMatchesReference': WHATEVER THE INPUT: true; the input reads as it did. -/
def invkinMatchesReferenceSpec : ChangeSpec := { name := "invkinMatchesReference", fn := fun _ => fun
  | [d1, d2, d3, d4, d5, d6] => { results := [.lit (.bool true)], args := [d1, d2, d3, d4, d5, d6] }
  | _ => none }
def invkinMatchesReferenceRow : OpenClaim := { program := "ytajdhkchgidjmaa", sum := "6226cf90971d02cacb8baa35398c4cb2d67d9c3c74c1ed205b9e2a93b18cfdce", func := "ambidexter/ambidexterlaw08.InvkinMatchesReference", spec := "invkinMatchesReference", unfollowed := true, recurses := true, apart := false }
def InvkinMatchesReferenceSaid : Prop := invkinMatchesReferenceRow.holds Try.pinned (OpenSpec.ofChange invkinMatchesReferenceSpec)

/-- ITS FALSE NEIGHBOUR: 'it returns false'. Refute it at one input. -/
def invkinMatchesReferenceWrong : ChangeSpec := { name := "invkinMatchesReference", fn := fun _ => fun
  | [d1, d2, d3, d4, d5, d6] => { results := [.lit (.bool false)], args := [d1, d2, d3, d4, d5, d6] }
  | _ => none }
def InvkinMatchesReferenceWrongFalsely : Prop := invkinMatchesReferenceRow.holds Try.pinned (OpenSpec.ofChange invkinMatchesReferenceWrong)

/-- 'ambidexterlaw08.InvkinAtMostTwo': WHATEVER THE INPUT: true; the input reads as it did. -/
def invkinAtMostTwoSpec : ChangeSpec := { name := "invkinAtMostTwo", fn := fun _ => fun
  | [d1, d2, d3, d4, d5] => { results := [.lit (.bool true)], args := [d1, d2, d3, d4, d5] }
  | _ => none }
def invkinAtMostTwoRow : OpenClaim := { program := "ytajdhkchgidjmaa", sum := "6226cf90971d02cacb8baa35398c4cb2d67d9c3c74c1ed205b9e2a93b18cfdce", func := "ambidexter/ambidexterlaw08.InvkinAtMostTwo", spec := "invkinAtMostTwo", unfollowed := true, recurses := true, apart := false }
def InvkinAtMostTwoSaid : Prop := invkinAtMostTwoRow.holds Try.pinned (OpenSpec.ofChange invkinAtMostTwoSpec)

/-- ITS FALSE NEIGHBOUR: 'it returns false'. Refute it at one input. -/
def invkinAtMostTwoWrong : ChangeSpec := { name := "invkinAtMostTwo", fn := fun _ => fun
  | [d1, d2, d3, d4, d5] => { results := [.lit (.bool false)], args := [d1, d2, d3, d4, d5] }
  | _ => none }
def InvkinAtMostTwoWrongFalsely : Prop := invkinAtMostTwoRow.holds Try.pinned (OpenSpec.ofChange invkinAtMostTwoWrong)

/-- 'ambidexterlaw08.InvkinTranslated': WHATEVER THE INPUT: true; the input reads as it did. -/
def invkinTranslatedSpec : ChangeSpec := { name := "invkinTranslated", fn := fun _ => fun
  | [d1, d2, d3] => { results := [.lit (.bool true)], args := [d1, d2, d3] }
  | _ => none }
def invkinTranslatedRow : OpenClaim := { program := "ytajdhkchgidjmaa", sum := "6226cf90971d02cacb8baa35398c4cb2d67d9c3c74c1ed205b9e2a93b18cfdce", func := "ambidexter/ambidexterlaw08.InvkinTranslated", spec := "invkinTranslated", unfollowed := true, recurses := true, apart := false }
def InvkinTranslatedSaid : Prop := invkinTranslatedRow.holds Try.pinned (OpenSpec.ofChange invkinTranslatedSpec)

/-- ITS FALSE NEIGHBOUR: 'it returns false'. Refute it at one input. -/
def invkinTranslatedWrong : ChangeSpec := { name := "invkinTranslated", fn := fun _ => fun
  | [d1, d2, d3] => { results := [.lit (.bool false)], args := [d1, d2, d3] }
  | _ => none }
def InvkinTranslatedWrongFalsely : Prop := invkinTranslatedRow.holds Try.pinned (OpenSpec.ofChange invkinTranslatedWrong)

/-- 'ambidexterlaw08.InvkinRotated': WHATEVER THE INPUT: true; the input reads as it did. -/
def invkinRotatedSpec : ChangeSpec := { name := "invkinRotated", fn := fun _ => fun
  | [d1, d2] => { results := [.lit (.bool true)], args := [d1, d2] }
  | _ => none }
def invkinRotatedRow : OpenClaim := { program := "ytajdhkchgidjmaa", sum := "6226cf90971d02cacb8baa35398c4cb2d67d9c3c74c1ed205b9e2a93b18cfdce", func := "ambidexter/ambidexterlaw08.InvkinRotated", spec := "invkinRotated", unfollowed := true, recurses := true, apart := false }
def InvkinRotatedSaid : Prop := invkinRotatedRow.holds Try.pinned (OpenSpec.ofChange invkinRotatedSpec)

/-- ITS FALSE NEIGHBOUR: 'it returns false'. Refute it at one input. -/
def invkinRotatedWrong : ChangeSpec := { name := "invkinRotated", fn := fun _ => fun
  | [d1, d2] => { results := [.lit (.bool false)], args := [d1, d2] }
  | _ => none }
def InvkinRotatedWrongFalsely : Prop := invkinRotatedRow.holds Try.pinned (OpenSpec.ofChange invkinRotatedWrong)

/-- 'ambidexterlaw08.InvkinNarrowLimits': WHATEVER THE INPUT: true; the input reads as it did. -/
def invkinNarrowLimitsSpec : ChangeSpec := { name := "invkinNarrowLimits", fn := fun _ => fun
  | [d1, d2, d3, d4] => { results := [.lit (.bool true)], args := [d1, d2, d3, d4] }
  | _ => none }
def invkinNarrowLimitsRow : OpenClaim := { program := "ytajdhkchgidjmaa", sum := "6226cf90971d02cacb8baa35398c4cb2d67d9c3c74c1ed205b9e2a93b18cfdce", func := "ambidexter/ambidexterlaw08.InvkinNarrowLimits", spec := "invkinNarrowLimits", unfollowed := true, recurses := true, apart := false }
def InvkinNarrowLimitsSaid : Prop := invkinNarrowLimitsRow.holds Try.pinned (OpenSpec.ofChange invkinNarrowLimitsSpec)

/-- ITS FALSE NEIGHBOUR: 'it returns false'. Refute it at one input. -/
def invkinNarrowLimitsWrong : ChangeSpec := { name := "invkinNarrowLimits", fn := fun _ => fun
  | [d1, d2, d3, d4] => { results := [.lit (.bool false)], args := [d1, d2, d3, d4] }
  | _ => none }
def InvkinNarrowLimitsWrongFalsely : Prop := invkinNarrowLimitsRow.holds Try.pinned (OpenSpec.ofChange invkinNarrowLimitsWrong)

/-- 'ambidexterlaw08.InvkinNearest': WHATEVER THE INPUT: true; the input reads as it did. -/
def invkinNearestSpec : ChangeSpec := { name := "invkinNearest", fn := fun _ => fun
  | [d1, d2, d3, d4] => { results := [.lit (.bool true)], args := [d1, d2, d3, d4] }
  | _ => none }
def invkinNearestRow : OpenClaim := { program := "ytajdhkchgidjmaa", sum := "6226cf90971d02cacb8baa35398c4cb2d67d9c3c74c1ed205b9e2a93b18cfdce", func := "ambidexter/ambidexterlaw08.InvkinNearest", spec := "invkinNearest", unfollowed := true, recurses := true, apart := false }
def InvkinNearestSaid : Prop := invkinNearestRow.holds Try.pinned (OpenSpec.ofChange invkinNearestSpec)

/-- ITS FALSE NEIGHBOUR: 'it returns false'. Refute it at one input. -/
def invkinNearestWrong : ChangeSpec := { name := "invkinNearest", fn := fun _ => fun
  | [d1, d2, d3, d4] => { results := [.lit (.bool false)], args := [d1, d2, d3, d4] }
  | _ => none }
def InvkinNearestWrongFalsely : Prop := invkinNearestRow.holds Try.pinned (OpenSpec.ofChange invkinNearestWrong)

/-- 'ambidexterlaw08.InvkinRoundTrip': WHATEVER THE INPUT: true; the input reads as it did. -/
def invkinRoundTripSpec : ChangeSpec := { name := "invkinRoundTrip", fn := fun _ => fun
  | [d1, d2] => { results := [.lit (.bool true)], args := [d1, d2] }
  | _ => none }
def invkinRoundTripRow : OpenClaim := { program := "ytajdhkchgidjmaa", sum := "6226cf90971d02cacb8baa35398c4cb2d67d9c3c74c1ed205b9e2a93b18cfdce", func := "ambidexter/ambidexterlaw08.InvkinRoundTrip", spec := "invkinRoundTrip", unfollowed := true, recurses := true, apart := false }
def InvkinRoundTripSaid : Prop := invkinRoundTripRow.holds Try.pinned (OpenSpec.ofChange invkinRoundTripSpec)

/-- ITS FALSE NEIGHBOUR: 'it returns false'. Refute it at one input. -/
def invkinRoundTripWrong : ChangeSpec := { name := "invkinRoundTrip", fn := fun _ => fun
  | [d1, d2] => { results := [.lit (.bool false)], args := [d1, d2] }
  | _ => none }
def InvkinRoundTripWrongFalsely : Prop := invkinRoundTripRow.holds Try.pinned (OpenSpec.ofChange invkinRoundTripWrong)

/- THE SECOND FORM. 'bulk': how many values and letters a reading holds, each counted each time it is reached (what is shared counts as often as it is met; a slice's spare places count too). A statement '..UptoSaid' is the law's where the arguments, and the package variables that the reading takes, are together of bulk at most 1048576: NARROWER than '..Said'. Prove '..Said' where nothing that the law and all that it calls make is longer than what came in: it says more and counts as full. Else prove '..UptoSaid'. A law counts once. -/
mutual
def uptoBulk {H : Type} : DataW H → Nat
  | .lit (.string bytes) => bytes.length + 1
  | .lit _ => 1
  | .nil => 1
  | .ptr d => uptoBulk d + 1
  | .slice elems spare => uptoBulkAll elems + uptoBulkAll spare + 1
  | .agg parts => uptoBulkAll parts + 1
  | .iface _ d => uptoBulk d + 1
  | .map entries => uptoBulkEntries entries + 1
  | .held _ => 1
def uptoBulkAll {H : Type} : List (DataW H) → Nat
  | [] => 0
  | d :: r => uptoBulk d + uptoBulkAll r
def uptoBulkEntries {H : Type} : List (Lit × DataW H) → Nat
  | [] => 0
  | x :: r => uptoBulkEntry x + uptoBulkEntries r
def uptoBulkEntry {H : Type} : Lit × DataW H → Nat
  | (.string bytes, d) => bytes.length + uptoBulk d + 1
  | (_, d) => uptoBulk d + 1
 end
def uptoSmall : (H : Type) → List (DataW H) → Bool := fun _ ds => decide (uptoBulkAll ds ≤ 1048576)
def OpenSpec.upto (s : _root_.Go.ChangeSpec) : _root_.Go.OpenSpec := { _root_.Go.OpenSpec.ofChange s with cond := some uptoSmall }

/-- 'ambidexterlaw08.InvkinMatchesReference', WHERE WHAT IT READS IS OF BULK AT MOST 1048576: true; the input reads as it did. -/
def invkinMatchesReferenceUptoRow : OpenClaim := { program := "ytajdhkchgidjmaa", sum := "6226cf90971d02cacb8baa35398c4cb2d67d9c3c74c1ed205b9e2a93b18cfdce", func := "ambidexter/ambidexterlaw08.InvkinMatchesReference", spec := "invkinMatchesReference", unfollowed := true, recurses := true, apart := false, narrowed := true }
def InvkinMatchesReferenceUptoSaid : Prop := invkinMatchesReferenceUptoRow.holds Try.pinned (OpenSpec.upto invkinMatchesReferenceSpec)

/-- 'ambidexterlaw08.InvkinAtMostTwo', WHERE WHAT IT READS IS OF BULK AT MOST 1048576: true; the input reads as it did. -/
def invkinAtMostTwoUptoRow : OpenClaim := { program := "ytajdhkchgidjmaa", sum := "6226cf90971d02cacb8baa35398c4cb2d67d9c3c74c1ed205b9e2a93b18cfdce", func := "ambidexter/ambidexterlaw08.InvkinAtMostTwo", spec := "invkinAtMostTwo", unfollowed := true, recurses := true, apart := false, narrowed := true }
def InvkinAtMostTwoUptoSaid : Prop := invkinAtMostTwoUptoRow.holds Try.pinned (OpenSpec.upto invkinAtMostTwoSpec)

/-- 'ambidexterlaw08.InvkinTranslated', WHERE WHAT IT READS IS OF BULK AT MOST 1048576: true; the input reads as it did. -/
def invkinTranslatedUptoRow : OpenClaim := { program := "ytajdhkchgidjmaa", sum := "6226cf90971d02cacb8baa35398c4cb2d67d9c3c74c1ed205b9e2a93b18cfdce", func := "ambidexter/ambidexterlaw08.InvkinTranslated", spec := "invkinTranslated", unfollowed := true, recurses := true, apart := false, narrowed := true }
def InvkinTranslatedUptoSaid : Prop := invkinTranslatedUptoRow.holds Try.pinned (OpenSpec.upto invkinTranslatedSpec)

/-- 'ambidexterlaw08.InvkinRotated', WHERE WHAT IT READS IS OF BULK AT MOST 1048576: true; the input reads as it did. -/
def invkinRotatedUptoRow : OpenClaim := { program := "ytajdhkchgidjmaa", sum := "6226cf90971d02cacb8baa35398c4cb2d67d9c3c74c1ed205b9e2a93b18cfdce", func := "ambidexter/ambidexterlaw08.InvkinRotated", spec := "invkinRotated", unfollowed := true, recurses := true, apart := false, narrowed := true }
def InvkinRotatedUptoSaid : Prop := invkinRotatedUptoRow.holds Try.pinned (OpenSpec.upto invkinRotatedSpec)

/-- 'ambidexterlaw08.InvkinNarrowLimits', WHERE WHAT IT READS IS OF BULK AT MOST 1048576: true; the input reads as it did. -/
def invkinNarrowLimitsUptoRow : OpenClaim := { program := "ytajdhkchgidjmaa", sum := "6226cf90971d02cacb8baa35398c4cb2d67d9c3c74c1ed205b9e2a93b18cfdce", func := "ambidexter/ambidexterlaw08.InvkinNarrowLimits", spec := "invkinNarrowLimits", unfollowed := true, recurses := true, apart := false, narrowed := true }
def InvkinNarrowLimitsUptoSaid : Prop := invkinNarrowLimitsUptoRow.holds Try.pinned (OpenSpec.upto invkinNarrowLimitsSpec)

/-- 'ambidexterlaw08.InvkinNearest', WHERE WHAT IT READS IS OF BULK AT MOST 1048576: true; the input reads as it did. -/
def invkinNearestUptoRow : OpenClaim := { program := "ytajdhkchgidjmaa", sum := "6226cf90971d02cacb8baa35398c4cb2d67d9c3c74c1ed205b9e2a93b18cfdce", func := "ambidexter/ambidexterlaw08.InvkinNearest", spec := "invkinNearest", unfollowed := true, recurses := true, apart := false, narrowed := true }
def InvkinNearestUptoSaid : Prop := invkinNearestUptoRow.holds Try.pinned (OpenSpec.upto invkinNearestSpec)

/-- 'ambidexterlaw08.InvkinRoundTrip', WHERE WHAT IT READS IS OF BULK AT MOST 1048576: true; the input reads as it did. -/
def invkinRoundTripUptoRow : OpenClaim := { program := "ytajdhkchgidjmaa", sum := "6226cf90971d02cacb8baa35398c4cb2d67d9c3c74c1ed205b9e2a93b18cfdce", func := "ambidexter/ambidexterlaw08.InvkinRoundTrip", spec := "invkinRoundTrip", unfollowed := true, recurses := true, apart := false, narrowed := true }
def InvkinRoundTripUptoSaid : Prop := invkinRoundTripUptoRow.holds Try.pinned (OpenSpec.upto invkinRoundTripSpec)

end Rows
end Go.Proofs.Ytajdhkchgidjmaa
