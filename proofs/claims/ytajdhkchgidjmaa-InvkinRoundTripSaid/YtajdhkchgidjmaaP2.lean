/- The fixed examples, reckoned. -/
import Derived.Test.YtajdhkchgidjmaaP1
set_option linter.unusedVariables false
set_option linter.unusedSimpArgs false
set_option maxRecDepth 100000
namespace Go.Proofs
open Go Go.Abs
def ar211 : Ar := ⟨(0, 0), ⟨2, 1, 1⟩, 1, ⟨-17, -17, -17⟩, ⟨18, 18, 18⟩⟩
theorem sol_a : sol ar211 (0, 0) ⟨-274625, 0, 3⟩ = [⟨0, 18, 0⟩] := by kernel_rfl
theorem sol_b : sol ar211 (17576000, 0) ⟨274625, 0, 3⟩ = [⟨0, 0, 0⟩] := by kernel_rfl
theorem sol_c : sol ar211 (21970000, 0) ⟨274625, 0, 3⟩ = [] := by kernel_rfl
theorem right_211 : right ar211 = true := by decide
theorem valid_back : valid ⟨-274625, 0, 3⟩ = true := by kernel_rfl
theorem valid_ahead : valid ⟨274625, 0, 3⟩ = true := by kernel_rfl
end Go.Proofs
