/- The tied card of ExpandPickPut. -/
import Derived.Test.YtnanajdckbfamaaGreatDoorH7
import Derived.Test.YtnanajdckbfamaaGreatDoorTie
import Derived.Test.YtnanajdckbfamaaGreatDoorCards
import Derived.SevenTiedAt
set_option linter.unusedVariables false
set_option maxRecDepth 100000
namespace Go.Proofs.YtnanajdckbfamaaGreatDoor
open Go
theorem expandPickPutCard_holds : Rows.ExpandPickPutCardSaid :=
  Claim7.holds_tied_plain_at .later [] [.handle] true (true, "79b07f9e792b2be16151c36957c204727ea69ad511092c52ed5b186020d21d47") true
    expandPickPut_holds (fun _ h => by cases h) (by kernel_rfl) (fun _ h => by cases h) expandPickPut_row_tie rfl ⟨rfl, rfl⟩ (by kernel_rfl) rfl
    (fun f fn hf hfn => by
      obtain rfl : f = 7 := Option.some.inj ((show Tryz.prog.funcNamed "ambidexter/ambidexterlaw13.ExpandPickPut" = some 7 by kernel_rfl).symm.trans hf) |>.symm
      obtain rfl : fn = Tryz.f7 := (Option.some.inj (Tryz.func7.symm.trans hfn)).symm
      exact ⟨by kernel_rfl, fun j t ht => by
        rw [Tryz.params7] at ht
        have ht : t = 38 ∨ t = 39 ∨ t = 75 ∨ t = 5 := by
          have := List.mem_of_getElem? (Array.getElem?_toList ▸ ht)
          simpa using this
        rcases ht with rfl | rfl | rfl | rfl
        · exact (show Tryz.prog.wantsStandIn 38 = false by kernel_rfl)
        · exact (show Tryz.prog.wantsStandIn 39 = false by kernel_rfl)
        · exact (show Tryz.prog.wantsStandIn 75 = false by kernel_rfl)
        · exact (show Tryz.prog.wantsStandIn 5 = false by kernel_rfl)
        ⟩)
    (by kernel_rfl)
end Go.Proofs.YtnanajdckbfamaaGreatDoor

