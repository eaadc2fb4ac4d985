/- ExpandConcatenation returns true for every input, and each argument reads behind the call as before. Its conditions: the row's own. -/
import Derived.Test.YtnanajdckbfamaaGreatDoorX26
import Derived.Test.YtnanajdckbfamaaGreatDoorR0
import Derived.Test.YtnanajdckbfamaaGreatDoorR1
import Derived.Test.YtnanajdckbfamaaGreatDoorTie
set_option linter.unusedVariables false
namespace Go.Proofs.YtnanajdckbfamaaGreatDoor
open Go Go.Abs Go.ChangeShapes Go.WideShapes Go.ChangeAt Go.RowKit
set_option maxRecDepth 100000 in
theorem expandConcatenation_lifted (os : Os) (started : os.Started) (H : Type) (enc : TypeId × Value → H) :
    ReturnsInHanded {} Tryz.checked os 6 .any (fun w args => (Rows.expandConcatenationSpec.pre enc Tryz.prog Tryz.f6 [] false w args ∧ laidMetH Tryz.prog laid13 w) ∧ sizedMet enc Tryz.prog Tryz.f6 (OpenSpec.ofChange Rows.expandConcatenationSpec) false w args)
      (Rows.expandConcatenationSpec.post enc Tryz.prog Tryz.f6 false true false false) := by
  refine lifted_of_pureG (tb := 4) Tryz.own started (by kernel_rfl) Tryz.func6
    (ChangeSpec.witness_at (enc := enc) (C := Tryz.checked) (os := os) (X := fun w _ => laidMetH Tryz.prog laid13 w) false (laidWorld os) #[.agg #[.int .i64 0, .int .i64 0, .int .i64 0, .int .i64 0, .int .i64 0, .int .i64 0, .int .i64 0, .int .i64 0, .int .i64 0, .int .i64 0, .int .i64 0, .int .i64 0, .int .i64 0, .int .i64 0, .int .i64 0, .int .i64 0, .int .i64 0, .int .i64 0, .int .i64 0, .int .i64 0, .int .i64 0, .int .i64 0, .int .i64 0, .int .i64 0, .int .i64 0, .int .i64 0, .int .i64 0, .int .i64 0, .int .i64 0, .int .i64 0, .slice none 0 0, .slice none 0 0, .slice none 0 0, .slice none 0 0, .int .i64 0, .int .i64 0, .int .i64 0, .int .i64 0, .int .i64 0, .int .i64 0, .int .i64 0, .slice none 0 0, .int .i64 0, .int .i64 0], .slice none 0 0, .slice none 0 0] 8 rfl (by kernel_rfl) (by kernel_rfl) (by kernel_rfl) (by kernel_rfl) (by kernel_rfl) (laidWorld_met os _))
    Tryz.laidOut ?_ rfl rfl Tryz.underlying4 ?_ ?_
  · rw [Tryz.params6]; intro t ht
    have ht : t = 38 ∨ t = 39 ∨ t = 39 := by simpa using ht
    rcases ht with rfl | rfl | rfl
    · exact ⟨by kernel_rfl, of_decide_eq_true (by kernel_rfl)⟩
    · exact ⟨by kernel_rfl, of_decide_eq_true (by kernel_rfl)⟩
    · exact ⟨by kernel_rfl, of_decide_eq_true (by kernel_rfl)⟩
  · intro ds hds
    rw [Tryz.params6] at hds
    match ds, hds with
    | [d0, d1, d2], _ => rfl
  · intro W base args ds ps hval hA
    rw [Tryz.params6] at hA hval
    have hargs : args = args.toList.toArray := by simp
    generalize args.toList = vs at hA hargs
    subst hargs
    obtain ⟨v0, vs0, d0, ds0, p0, q0, rfl, rfl, rfl, h0, hA0⟩ := trodAll_cons hA
    obtain ⟨v1, vs1, d1, ds1, p1, q1, rfl, rfl, rfl, h1, hA1⟩ := trodAll_cons hA0
    obtain ⟨v2, vs2, d2, ds2, p2, q2, rfl, rfl, rfl, h2, hA2⟩ := trodAll_cons hA1
    obtain ⟨rfl, rfl, rfl⟩ := trodAll_nil hA2
    obtain ⟨a, wa, ra⟩ := argCell.read (hval 0 38 v0 rfl rfl) h0
    obtain ⟨b, wb, rb⟩ := argWords.read (hval 1 39 v1 rfl rfl) h1
    obtain ⟨c, wc, rc⟩ := argWords.read (hval 2 39 v2 rfl rfl) h2
    exact ⟨_, .cons ra (.cons rb (.cons rc .nil)), concat_pure a b wb c wc⟩
theorem expandConcatenation_holds : Rows.ExpandConcatenationSaid :=
  OpenClaim.holds_of_wide 6 Tryz.f6 rfl rfl rfl rfl rfl rfl rfl ⟨rfl, rfl, rfl, rfl, rfl⟩ rfl rfl rfl rfl rfl (by kernel_rfl) Tryz.func6 (by kernel_rfl)
    (of_decide_eq_true (by kernel_rfl)) (by unfold Func.isWrapper; first | (rw [if_pos (by decide +kernel)]; kernel_rfl) | (rw [if_neg (by decide +kernel)]; exact ⟨rfl, rfl⟩))
    (fun os started H enc _ => expandConcatenation_lifted os started H enc)
end Go.Proofs.YtnanajdckbfamaaGreatDoor
