/- RotationOneRevolution returns true for every input, and each argument reads behind the call as before. Its conditions: the row's own. -/
import Derived.Test.YtondobomjfanbaaL4
import Derived.Test.YtondobomjfanbaaR
set_option linter.unusedVariables false
namespace Go.Proofs.Ytondobomjfanbaa
open Go Go.Abs Go.ChangeShapes Go.WideShapes Go.ChangeAt Go.RowKit
set_option maxRecDepth 100000 in
theorem rotationOneRevolution_lifted (os : Os) (started : os.Started) (H : Type) (enc : TypeId × Value → H) :
    ReturnsInHanded {} Try.checked os 4 .any (Rows.rotationOneRevolutionSpec.pre6 enc Try.prog Try.f4 Rows.rotationOneRevolutionRow.domain false) (Rows.rotationOneRevolutionSpec.post enc Try.prog Try.f4 false true false false) := by
  refine lifted_of_pure (C := Try.checked) (tb := 4) (n := 1) Try.own started (by kernel_rfl) Try.func4
    (ChangeSpec.witness6 (enc := enc) (C := Try.checked) false ⟨#[], #[.int .i16 0], []⟩ 8 (by kernel_rfl) (by kernel_rfl) (by kernel_rfl) (by kernel_rfl))
    Try.laidOut ?_ rfl rfl Try.underlying4 ?_ ?_
  · rw [Try.params4]; intro t ht
    have ht : t = 41 := by simpa using ht
    rcases ht with rfl
    · exact ⟨by kernel_rfl, of_decide_eq_true (by kernel_rfl)⟩
  · intro ds hds
    rw [Try.params4] at hds
    match ds, hds with
    | [d0], _ => rfl
  · intro W base args ds ps hval hA
    rw [Try.params4] at hA hval
    have hargs : args = args.toList.toArray := by simp
    generalize args.toList = vs at hA hargs
    subst hargs
    obtain ⟨v0, vs0, d0, ds0, p0, q0, rfl, rfl, rfl, h0, hA0⟩ := trodAll_cons hA
    obtain ⟨rfl, rfl, rfl⟩ := trodAll_nil hA0
    obtain ⟨a, wa, ra⟩ := argI16.read (hval 0 41 v0 rfl rfl) h0
    exact ⟨_, .cons ra .nil, law4 a wa⟩
theorem rotationOneRevolution_holds : Rows.RotationOneRevolutionSaid :=
  OpenClaim.holds_of_wide 4 Try.f4 rfl rfl rfl rfl rfl rfl rfl ⟨rfl, rfl, rfl, rfl, rfl⟩ rfl rfl rfl rfl rfl (by kernel_rfl) Try.func4 (by kernel_rfl)
    (of_decide_eq_true (by kernel_rfl)) (by unfold Func.isWrapper; first | (rw [if_pos (by decide +kernel)]; kernel_rfl) | (rw [if_neg (by decide +kernel)]; exact ⟨rfl, rfl⟩))
    (fun os started H enc _ => rotationOneRevolution_lifted os started H enc)
end Go.Proofs.Ytondobomjfanbaa
