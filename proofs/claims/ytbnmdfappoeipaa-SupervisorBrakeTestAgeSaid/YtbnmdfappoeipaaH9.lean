/- SupervisorBrakeTestAge returns true for every input, and each argument reads behind the call as before. Its conditions: the row's own. -/
import Derived.Test.YtbnmdfappoeipaaM9
import Derived.Test.YtbnmdfappoeipaaR
set_option linter.unusedVariables false
namespace Go.Proofs.Ytbnmdfappoeipaa
open Go Go.Abs Go.ChangeShapes Go.WideShapes Go.ChangeAt Go.RowKit
set_option maxRecDepth 100000 in
theorem supervisorBrakeTestAge_lifted (os : Os) (started : os.Started) (H : Type) (enc : TypeId × Value → H) :
    ReturnsInHanded {} Try.checked os 9 .any (Rows.supervisorBrakeTestAgeSpec.pre6 enc Try.prog Try.f9 Rows.supervisorBrakeTestAgeRow.domain false) (Rows.supervisorBrakeTestAgeSpec.post enc Try.prog Try.f9 false true false false) := by
  refine lifted_of_pure (C := Try.checked) (tb := 4) (n := 2) Try.own started (by kernel_rfl) Try.func9
    (ChangeSpec.witness6 (enc := enc) (C := Try.checked) false ⟨#[], #[.slice none 0 0, .agg #[.slice none 0 0, .int .i64 0, .bool false]], []⟩ 8 (by kernel_rfl) (by kernel_rfl) (by kernel_rfl) (by kernel_rfl))
    Try.laidOut ?_ rfl rfl Try.underlying4 ?_ ?_
  · rw [Try.params9]; intro t ht
    have ht : t = 26 ∨ t = 39 := by simpa using ht
    rcases ht with rfl | rfl
    · exact ⟨by kernel_rfl, of_decide_eq_true (by kernel_rfl)⟩
    · exact ⟨by kernel_rfl, of_decide_eq_true (by kernel_rfl)⟩
  · intro ds hds
    rw [Try.params9] at hds
    match ds, hds with
    | [d0, d1], _ => rfl
  · intro W base args ds ps hval hA
    rw [Try.params9] at hA hval
    have hargs : args = args.toList.toArray := by simp
    generalize args.toList = vs at hA hargs
    subst hargs
    obtain ⟨v0, vs0, d0, ds0, p0, q0, rfl, rfl, rfl, h0, hA0⟩ := trodAll_cons hA
    obtain ⟨v1, vs1, d1, ds1, p1, q1, rfl, rfl, rfl, h1, hA1⟩ := trodAll_cons hA0
    obtain ⟨rfl, rfl, rfl⟩ := trodAll_nil hA1
    obtain ⟨a, wa, ra⟩ := argTs.read (hval 0 26 v0 rfl rfl) h0
    obtain ⟨b, wb, rb⟩ := argTk.read (hval 1 39 v1 rfl rfl) h1
    exact ⟨_, .cons ra (.cons rb .nil), law9 a b⟩
theorem supervisorBrakeTestAge_holds : Rows.SupervisorBrakeTestAgeSaid :=
  OpenClaim.holds_of_wide 9 Try.f9 rfl rfl rfl rfl rfl rfl rfl ⟨rfl, rfl, rfl, rfl, rfl⟩ rfl rfl rfl rfl rfl (by kernel_rfl) Try.func9 (by kernel_rfl)
    (of_decide_eq_true (by kernel_rfl)) (by unfold Func.isWrapper; first | (rw [if_pos (by decide +kernel)]; kernel_rfl) | (rw [if_neg (by decide +kernel)]; exact ⟨rfl, rfl⟩))
    (fun os started H enc _ => supervisorBrakeTestAge_lifted os started H enc)
end Go.Proofs.Ytbnmdfappoeipaa
