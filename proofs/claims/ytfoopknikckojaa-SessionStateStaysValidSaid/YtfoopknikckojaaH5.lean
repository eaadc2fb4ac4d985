/- SessionStateStaysValid returns true for every input, and each argument reads behind the call as before. Its conditions: the row's own. -/
import Derived.Test.YtfoopknikckojaaL5
import Derived.Test.YtfoopknikckojaaR
set_option linter.unusedVariables false
namespace Go.Proofs.Ytfoopknikckojaa
open Go Go.Abs Go.ChangeShapes Go.WideShapes Go.ChangeAt Go.RowKit
set_option maxRecDepth 100000 in
theorem sessionStateStaysValid_lifted (os : Os) (started : os.Started) (H : Type) (enc : TypeId × Value → H) :
    ReturnsInHanded {} Try.checked os 5 .any (Rows.sessionStateStaysValidSpec.pre6 enc Try.prog Try.f5 Rows.sessionStateStaysValidRow.domain false) (Rows.sessionStateStaysValidSpec.post enc Try.prog Try.f5 false true false false) := by
  refine lifted_of_pure (C := Try.checked) (tb := 4) (n := 2) Try.own started (by kernel_rfl) Try.func5
    (ChangeSpec.witness6 (enc := enc) (C := Try.checked) false ⟨#[], #[.slice none 0 0, .agg #[.int .i64 0, .int .u8 0, .slice none 0 0]], []⟩ 8 (by kernel_rfl) (by kernel_rfl) (by kernel_rfl) (by kernel_rfl))
    Try.laidOut ?_ rfl rfl Try.underlying4 ?_ ?_
  · rw [Try.params5]; intro t ht
    have ht : t = 27 ∨ t = 35 := by simpa using ht
    rcases ht with rfl | rfl
    · exact ⟨by kernel_rfl, of_decide_eq_true (by kernel_rfl)⟩
    · exact ⟨by kernel_rfl, of_decide_eq_true (by kernel_rfl)⟩
  · intro ds hds
    rw [Try.params5] at hds
    match ds, hds with
    | [d1, d2], _ => rfl
  · intro W base args ds ps hval hA
    rw [Try.params5] at hA hval
    obtain ⟨v0, v1, d0, d1, p0, p1, rfl, rfl, rfl, h0, h1⟩ := trodAll_two hA
    obtain ⟨a, _, ha⟩ := arg27.read (hval 0 27 v0 rfl rfl) h0
    obtain ⟨b, _, hb⟩ := arg35.read (hval 1 35 v1 rfl rfl) h1
    exact ⟨_, .cons ha (.cons hb .nil), law5 a b⟩
theorem sessionStateStaysValid_holds : Rows.SessionStateStaysValidSaid :=
  OpenClaim.holds_of_wide 5 Try.f5 rfl rfl rfl rfl rfl rfl rfl ⟨rfl, rfl, rfl, rfl, rfl⟩ rfl rfl rfl rfl rfl (by kernel_rfl) Try.func5 (by kernel_rfl)
    (of_decide_eq_true (by kernel_rfl)) (by unfold Func.isWrapper; first | (rw [if_pos (by decide +kernel)]; kernel_rfl) | (rw [if_neg (by decide +kernel)]; exact ⟨rfl, rfl⟩))
    (fun os started H enc _ => sessionStateStaysValid_lifted os started H enc)
end Go.Proofs.Ytfoopknikckojaa
