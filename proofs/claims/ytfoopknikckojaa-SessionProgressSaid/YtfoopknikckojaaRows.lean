/-
  No cell of these rows narrows 'for every input' (looked for: loops, veiled, ifaces, maps, wideKeys, modest, calm, conditions, laid).
  DERIVED. THE GIVEN ROWS OF THIS SEAT. 6 by the template 'for every input the law returns true; each argument reads behind the call as it read before'; 0 by the template 'total and deterministic' (their statements: YtfoopknikckojaaTotals.lean).
  GIVEN WITH THE SEED: the statements are not yours to turn. If you find one false, say at which input.
  Laid BY PROGRAM, IN A SANDBOX (cutbox-rows.mjs): the forced cells as the released guide's own fill.sh prints them over the translation fcf37234597d48d4… (all of the seat's roots in one cut). By AI agents, Wed Nov 11 2026. No macro, syntax, notation, axiom, sorry.
-/
import Derived.Test.YtfoopknikckojaaChecked
import GoSem.Claim
import GoSem.ClaimJoined
import GoSem.ClaimMapViews
import Derived.JoinedTies
import Derived.KernelRfl
namespace Go.Proofs.Ytfoopknikckojaa
/- THE CELL 'sum', in the pinned program and in every row, IS THE sha256 OF THE DUMP (.gsa) THAT YtfoopknikckojaaProg.lean LOADS. Nothing in Lean hashes anything: it is a label: what it is worth is what the hold of that sum in a sandbox is worth. -/
noncomputable def Try.pinned : Pinned := { name := "ytfoopknikckojaa", sum := "fcf37234597d48d4c24feb0414de2d78b7bac66841fe369633e6fc8ff14d0e4b", checked := Try.checked }
namespace Rows
def none {H : Type} : Left H := { results := [], args := [] }

/-- 'ambidexterlaw33.SessionMatchesReference': WHATEVER THE INPUT: true; the input reads as it did. -/
def sessionMatchesReferenceSpec : ChangeSpec := { name := "sessionMatchesReference", fn := fun _ => fun
  | [d1, d2] => { results := [.lit (.bool true)], args := [d1, d2] }
  | _ => none }
def sessionMatchesReferenceRow : OpenClaim := { program := "ytfoopknikckojaa", sum := "fcf37234597d48d4c24feb0414de2d78b7bac66841fe369633e6fc8ff14d0e4b", func := "ambidexter/ambidexterlaw33.SessionMatchesReference", spec := "sessionMatchesReference", unfollowed := true, recurses := true, apart := false }
def SessionMatchesReferenceSaid : Prop := sessionMatchesReferenceRow.holds Try.pinned (OpenSpec.ofChange sessionMatchesReferenceSpec)

/-- ITS FALSE NEIGHBOUR: 'it returns false'. Refute it at one input. -/
def sessionMatchesReferenceWrong : ChangeSpec := { name := "sessionMatchesReference", fn := fun _ => fun
  | [d1, d2] => { results := [.lit (.bool false)], args := [d1, d2] }
  | _ => none }
def SessionMatchesReferenceWrongFalsely : Prop := sessionMatchesReferenceRow.holds Try.pinned (OpenSpec.ofChange sessionMatchesReferenceWrong)

/-- 'ambidexterlaw33.SessionAtMostOnce': WHATEVER THE INPUT: true; the input reads as it did. -/
def sessionAtMostOnceSpec : ChangeSpec := { name := "sessionAtMostOnce", fn := fun _ => fun
  | [d] => { results := [.lit (.bool true)], args := [d] }
  | _ => none }
def sessionAtMostOnceRow : OpenClaim := { program := "ytfoopknikckojaa", sum := "fcf37234597d48d4c24feb0414de2d78b7bac66841fe369633e6fc8ff14d0e4b", func := "ambidexter/ambidexterlaw33.SessionAtMostOnce", spec := "sessionAtMostOnce", unfollowed := true, recurses := true, apart := false }
def SessionAtMostOnceSaid : Prop := sessionAtMostOnceRow.holds Try.pinned (OpenSpec.ofChange sessionAtMostOnceSpec)

/-- ITS FALSE NEIGHBOUR: 'it returns false'. Refute it at one input. -/
def sessionAtMostOnceWrong : ChangeSpec := { name := "sessionAtMostOnce", fn := fun _ => fun
  | [d] => { results := [.lit (.bool false)], args := [d] }
  | _ => none }
def SessionAtMostOnceWrongFalsely : Prop := sessionAtMostOnceRow.holds Try.pinned (OpenSpec.ofChange sessionAtMostOnceWrong)

/-- 'ambidexterlaw33.SessionStateStaysValid': WHATEVER THE INPUT: true; the input reads as it did. -/
def sessionStateStaysValidSpec : ChangeSpec := { name := "sessionStateStaysValid", fn := fun _ => fun
  | [d1, d2] => { results := [.lit (.bool true)], args := [d1, d2] }
  | _ => none }
def sessionStateStaysValidRow : OpenClaim := { program := "ytfoopknikckojaa", sum := "fcf37234597d48d4c24feb0414de2d78b7bac66841fe369633e6fc8ff14d0e4b", func := "ambidexter/ambidexterlaw33.SessionStateStaysValid", spec := "sessionStateStaysValid", unfollowed := true, recurses := true, apart := false }
def SessionStateStaysValidSaid : Prop := sessionStateStaysValidRow.holds Try.pinned (OpenSpec.ofChange sessionStateStaysValidSpec)

/-- ITS FALSE NEIGHBOUR: 'it returns false'. Refute it at one input. -/
def sessionStateStaysValidWrong : ChangeSpec := { name := "sessionStateStaysValid", fn := fun _ => fun
  | [d1, d2] => { results := [.lit (.bool false)], args := [d1, d2] }
  | _ => none }
def SessionStateStaysValidWrongFalsely : Prop := sessionStateStaysValidRow.holds Try.pinned (OpenSpec.ofChange sessionStateStaysValidWrong)

/-- 'ambidexterlaw33.SessionRetransmission': WHATEVER THE INPUT: true; the input reads as it did. -/
def sessionRetransmissionSpec : ChangeSpec := { name := "sessionRetransmission", fn := fun _ => fun
  | [d1, d2, d3, d4, d5] => { results := [.lit (.bool true)], args := [d1, d2, d3, d4, d5] }
  | _ => none }
def sessionRetransmissionRow : OpenClaim := { program := "ytfoopknikckojaa", sum := "fcf37234597d48d4c24feb0414de2d78b7bac66841fe369633e6fc8ff14d0e4b", func := "ambidexter/ambidexterlaw33.SessionRetransmission", spec := "sessionRetransmission", unfollowed := true, recurses := true, apart := false }
def SessionRetransmissionSaid : Prop := sessionRetransmissionRow.holds Try.pinned (OpenSpec.ofChange sessionRetransmissionSpec)

/-- ITS FALSE NEIGHBOUR: 'it returns false'. Refute it at one input. -/
def sessionRetransmissionWrong : ChangeSpec := { name := "sessionRetransmission", fn := fun _ => fun
  | [d1, d2, d3, d4, d5] => { results := [.lit (.bool false)], args := [d1, d2, d3, d4, d5] }
  | _ => none }
def SessionRetransmissionWrongFalsely : Prop := sessionRetransmissionRow.holds Try.pinned (OpenSpec.ofChange sessionRetransmissionWrong)

/-- 'ambidexterlaw33.SessionProgress': WHATEVER THE INPUT: true; the input reads as it did. -/
def sessionProgressSpec : ChangeSpec := { name := "sessionProgress", fn := fun _ => fun
  | [d1, d2] => { results := [.lit (.bool true)], args := [d1, d2] }
  | _ => none }
def sessionProgressRow : OpenClaim := { program := "ytfoopknikckojaa", sum := "fcf37234597d48d4c24feb0414de2d78b7bac66841fe369633e6fc8ff14d0e4b", func := "ambidexter/ambidexterlaw33.SessionProgress", spec := "sessionProgress", unfollowed := true, recurses := true, apart := false }
def SessionProgressSaid : Prop := sessionProgressRow.holds Try.pinned (OpenSpec.ofChange sessionProgressSpec)

/-- ITS FALSE NEIGHBOUR: 'it returns false'. Refute it at one input. -/
def sessionProgressWrong : ChangeSpec := { name := "sessionProgress", fn := fun _ => fun
  | [d1, d2] => { results := [.lit (.bool false)], args := [d1, d2] }
  | _ => none }
def SessionProgressWrongFalsely : Prop := sessionProgressRow.holds Try.pinned (OpenSpec.ofChange sessionProgressWrong)

/-- 'ambidexterlaw33.SessionRejectsNonRequests': WHATEVER THE INPUT: true; the input reads as it did. -/
def sessionRejectsNonRequestsSpec : ChangeSpec := { name := "sessionRejectsNonRequests", fn := fun _ => fun
  | [d1, d2, d3, d4] => { results := [.lit (.bool true)], args := [d1, d2, d3, d4] }
  | _ => none }
def sessionRejectsNonRequestsRow : OpenClaim := { program := "ytfoopknikckojaa", sum := "fcf37234597d48d4c24feb0414de2d78b7bac66841fe369633e6fc8ff14d0e4b", func := "ambidexter/ambidexterlaw33.SessionRejectsNonRequests", spec := "sessionRejectsNonRequests", unfollowed := true, recurses := true, apart := false }
def SessionRejectsNonRequestsSaid : Prop := sessionRejectsNonRequestsRow.holds Try.pinned (OpenSpec.ofChange sessionRejectsNonRequestsSpec)

/-- ITS FALSE NEIGHBOUR: 'it returns false'. Refute it at one input. -/
def sessionRejectsNonRequestsWrong : ChangeSpec := { name := "sessionRejectsNonRequests", fn := fun _ => fun
  | [d1, d2, d3, d4] => { results := [.lit (.bool false)], args := [d1, d2, d3, d4] }
  | _ => none }
def SessionRejectsNonRequestsWrongFalsely : Prop := sessionRejectsNonRequestsRow.holds Try.pinned (OpenSpec.ofChange sessionRejectsNonRequestsWrong)

/- THE SECOND FORM. 'bulk': how many values and letters a reading holds, each counted each time it is reached (what is shared counts as often as it is met; a slice's spare places count too). A statement '..UptoSaid' is the law's where the arguments, and the package variables that the reading takes, are together of bulk at most 1048576: NARROWER than '..Said'. Prove '..Said' where nothing that the law and all that it calls make is longer than what came in: it says more and counts as full. Else prove '..UptoSaid'. A law counts once. -/
mutual
def uptoBulk {H : Type} : DataW H → Nat
  | .lit (.string bytes) => bytes.length + 1
  | .lit _ => 1
  | .nil => 1
  | .ptr d => uptoBulk d + 1
  | .slice elems spare => uptoBulkAll elems + uptoBulkAll spare + 1
  | .agg parts => uptoBulkAll parts + 1
  | .iface _ d => uptoBulk d + 1
  | .map entries => uptoBulkEntries entries + 1
  | .held _ => 1
def uptoBulkAll {H : Type} : List (DataW H) → Nat
  | [] => 0
  | d :: r => uptoBulk d + uptoBulkAll r
def uptoBulkEntries {H : Type} : List (Lit × DataW H) → Nat
  | [] => 0
  | x :: r => uptoBulkEntry x + uptoBulkEntries r
def uptoBulkEntry {H : Type} : Lit × DataW H → Nat
  | (.string bytes, d) => bytes.length + uptoBulk d + 1
  | (_, d) => uptoBulk d + 1
 end
def uptoSmall : (H : Type) → List (DataW H) → Bool := fun _ ds => decide (uptoBulkAll ds ≤ 1048576)
def OpenSpec.upto (s : _root_.Go.ChangeSpec) : _root_.Go.OpenSpec := { _root_.Go.OpenSpec.ofChange s with cond := some uptoSmall }

/-- 'ambidexterlaw33.SessionMatchesReference', WHERE WHAT IT READS IS OF BULK AT MOST 1048576: true; the input reads as it did. -/
def sessionMatchesReferenceUptoRow : OpenClaim := { program := "ytfoopknikckojaa", sum := "fcf37234597d48d4c24feb0414de2d78b7bac66841fe369633e6fc8ff14d0e4b", func := "ambidexter/ambidexterlaw33.SessionMatchesReference", spec := "sessionMatchesReference", unfollowed := true, recurses := true, apart := false, narrowed := true }
def SessionMatchesReferenceUptoSaid : Prop := sessionMatchesReferenceUptoRow.holds Try.pinned (OpenSpec.upto sessionMatchesReferenceSpec)

/-- 'ambidexterlaw33.SessionAtMostOnce', WHERE WHAT IT READS IS OF BULK AT MOST 1048576: true; the input reads as it did. -/
def sessionAtMostOnceUptoRow : OpenClaim := { program := "ytfoopknikckojaa", sum := "fcf37234597d48d4c24feb0414de2d78b7bac66841fe369633e6fc8ff14d0e4b", func := "ambidexter/ambidexterlaw33.SessionAtMostOnce", spec := "sessionAtMostOnce", unfollowed := true, recurses := true, apart := false, narrowed := true }
def SessionAtMostOnceUptoSaid : Prop := sessionAtMostOnceUptoRow.holds Try.pinned (OpenSpec.upto sessionAtMostOnceSpec)

/-- 'ambidexterlaw33.SessionStateStaysValid', WHERE WHAT IT READS IS OF BULK AT MOST 1048576: true; the input reads as it did. -/
def sessionStateStaysValidUptoRow : OpenClaim := { program := "ytfoopknikckojaa", sum := "fcf37234597d48d4c24feb0414de2d78b7bac66841fe369633e6fc8ff14d0e4b", func := "ambidexter/ambidexterlaw33.SessionStateStaysValid", spec := "sessionStateStaysValid", unfollowed := true, recurses := true, apart := false, narrowed := true }
def SessionStateStaysValidUptoSaid : Prop := sessionStateStaysValidUptoRow.holds Try.pinned (OpenSpec.upto sessionStateStaysValidSpec)

/-- 'ambidexterlaw33.SessionRetransmission', WHERE WHAT IT READS IS OF BULK AT MOST 1048576: true; the input reads as it did. -/
def sessionRetransmissionUptoRow : OpenClaim := { program := "ytfoopknikckojaa", sum := "fcf37234597d48d4c24feb0414de2d78b7bac66841fe369633e6fc8ff14d0e4b", func := "ambidexter/ambidexterlaw33.SessionRetransmission", spec := "sessionRetransmission", unfollowed := true, recurses := true, apart := false, narrowed := true }
def SessionRetransmissionUptoSaid : Prop := sessionRetransmissionUptoRow.holds Try.pinned (OpenSpec.upto sessionRetransmissionSpec)

/-- 'ambidexterlaw33.SessionProgress', WHERE WHAT IT READS IS OF BULK AT MOST 1048576: true; the input reads as it did. -/
def sessionProgressUptoRow : OpenClaim := { program := "ytfoopknikckojaa", sum := "fcf37234597d48d4c24feb0414de2d78b7bac66841fe369633e6fc8ff14d0e4b", func := "ambidexter/ambidexterlaw33.SessionProgress", spec := "sessionProgress", unfollowed := true, recurses := true, apart := false, narrowed := true }
def SessionProgressUptoSaid : Prop := sessionProgressUptoRow.holds Try.pinned (OpenSpec.upto sessionProgressSpec)

/-- 'ambidexterlaw33.SessionRejectsNonRequests', WHERE WHAT IT READS IS OF BULK AT MOST 1048576: true; the input reads as it did. -/
def sessionRejectsNonRequestsUptoRow : OpenClaim := { program := "ytfoopknikckojaa", sum := "fcf37234597d48d4c24feb0414de2d78b7bac66841fe369633e6fc8ff14d0e4b", func := "ambidexter/ambidexterlaw33.SessionRejectsNonRequests", spec := "sessionRejectsNonRequests", unfollowed := true, recurses := true, apart := false, narrowed := true }
def SessionRejectsNonRequestsUptoSaid : Prop := sessionRejectsNonRequestsUptoRow.holds Try.pinned (OpenSpec.upto sessionRejectsNonRequestsSpec)

end Rows
end Go.Proofs.Ytfoopknikckojaa
