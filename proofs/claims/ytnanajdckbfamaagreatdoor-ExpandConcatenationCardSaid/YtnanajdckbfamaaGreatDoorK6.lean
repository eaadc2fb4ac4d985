/- The tied card of ExpandConcatenation. -/
import Derived.Test.YtnanajdckbfamaaGreatDoorH6
import Derived.Test.YtnanajdckbfamaaGreatDoorTie
import Derived.Test.YtnanajdckbfamaaGreatDoorCards
import Derived.SevenTiedAt
set_option linter.unusedVariables false
set_option maxRecDepth 100000
namespace Go.Proofs.YtnanajdckbfamaaGreatDoor
open Go
theorem expandConcatenationCard_holds : Rows.ExpandConcatenationCardSaid :=
  Claim7.holds_tied_plain_at .later [] [.handle] true (true, "79b07f9e792b2be16151c36957c204727ea69ad511092c52ed5b186020d21d47") true
    expandConcatenation_holds (fun _ h => by cases h) (by kernel_rfl) (fun _ h => by cases h) expandConcatenation_row_tie rfl ⟨rfl, rfl⟩ (by kernel_rfl) rfl
    (fun f fn hf hfn => by
      obtain rfl : f = 6 := Option.some.inj ((show Tryz.prog.funcNamed "ambidexter/ambidexterlaw13.ExpandConcatenation" = some 6 by kernel_rfl).symm.trans hf) |>.symm
      obtain rfl : fn = Tryz.f6 := (Option.some.inj (Tryz.func6.symm.trans hfn)).symm
      exact ⟨by kernel_rfl, fun j t ht => by
        rw [Tryz.params6] at ht
        have ht : t = 38 ∨ t = 39 ∨ t = 39 := by
          have := List.mem_of_getElem? (Array.getElem?_toList ▸ ht)
          simpa using this
        rcases ht with rfl | rfl | rfl
        · exact (show Tryz.prog.wantsStandIn 38 = false by kernel_rfl)
        · exact (show Tryz.prog.wantsStandIn 39 = false by kernel_rfl)
        · exact (show Tryz.prog.wantsStandIn 39 = false by kernel_rfl)
        ⟩)
    (by kernel_rfl)
end Go.Proofs.YtnanajdckbfamaaGreatDoor

