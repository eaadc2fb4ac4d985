/- ExpandPickPut returns true for every input, and each argument reads behind the call as before. Its conditions: the row's own. -/
import Derived.Test.YtnanajdckbfamaaGreatDoorX27
import Derived.Test.YtnanajdckbfamaaGreatDoorR0
import Derived.Test.YtnanajdckbfamaaGreatDoorR1
import Derived.Test.YtnanajdckbfamaaGreatDoorTie
set_option linter.unusedVariables false
namespace Go.Proofs.YtnanajdckbfamaaGreatDoor
open Go Go.Abs Go.ChangeShapes Go.WideShapes Go.ChangeAt Go.RowKit
set_option maxRecDepth 100000 in
theorem expandPickPut_lifted (os : Os) (started : os.Started) (H : Type) (enc : TypeId × Value → H) :
    ReturnsInHanded {} Tryz.checked os 7 .any (fun w args => (Rows.expandPickPutSpec.pre enc Tryz.prog Tryz.f7 [] false w args ∧ laidMetH Tryz.prog laid13 w) ∧ sizedMet enc Tryz.prog Tryz.f7 (OpenSpec.ofChange Rows.expandPickPutSpec) false w args)
      (Rows.expandPickPutSpec.post enc Tryz.prog Tryz.f7 false true false false) := by
  refine lifted_of_pureG (tb := 4) Tryz.own started (by kernel_rfl) Tryz.func7
    (ChangeSpec.witness_at (enc := enc) (C := Tryz.checked) (os := os) (X := fun w _ => laidMetH Tryz.prog laid13 w) false (laidWorld os) #[.agg #[.int .i64 0, .int .i64 0, .int .i64 0, .int .i64 0, .int .i64 0, .int .i64 0, .int .i64 0, .int .i64 0, .int .i64 0, .int .i64 0, .int .i64 0, .int .i64 0, .int .i64 0, .int .i64 0, .int .i64 0, .int .i64 0, .int .i64 0, .int .i64 0, .int .i64 0, .int .i64 0, .int .i64 0, .int .i64 0, .int .i64 0, .int .i64 0, .int .i64 0, .int .i64 0, .int .i64 0, .int .i64 0, .int .i64 0, .int .i64 0, .slice none 0 0, .slice none 0 0, .slice none 0 0, .slice none 0 0, .int .i64 0, .int .i64 0, .int .i64 0, .int .i64 0, .int .i64 0, .int .i64 0, .int .i64 0, .slice none 0 0, .int .i64 0, .int .i64 0], .slice none 0 0, .agg #[.int .u8 0, .int .u8 0, .int .u8 0, .int .u8 0, .int .u8 0, .int .u8 0, .int .u8 0, .int .u8 0, .int .u8 0, .int .u8 0, .int .u16 0], .int .u8 0] 8 rfl (by kernel_rfl) (by kernel_rfl) (by kernel_rfl) (by kernel_rfl) (by kernel_rfl) (laidWorld_met os _))
    Tryz.laidOut ?_ rfl rfl Tryz.underlying4 ?_ ?_
  · rw [Tryz.params7]; intro t ht
    have ht : t = 38 ∨ t = 39 ∨ t = 75 ∨ t = 5 := by simpa using ht
    rcases ht with rfl | rfl | rfl | rfl
    · exact ⟨by kernel_rfl, of_decide_eq_true (by kernel_rfl)⟩
    · exact ⟨by kernel_rfl, of_decide_eq_true (by kernel_rfl)⟩
    · exact ⟨by kernel_rfl, of_decide_eq_true (by kernel_rfl)⟩
    · exact ⟨by kernel_rfl, of_decide_eq_true (by kernel_rfl)⟩
  · intro ds hds
    rw [Tryz.params7] at hds
    match ds, hds with
    | [d0, d1, d2, d3], _ => rfl
  · intro W base args ds ps hval hA
    rw [Tryz.params7] at hA hval
    have hargs : args = args.toList.toArray := by simp
    generalize args.toList = vs at hA hargs
    subst hargs
    obtain ⟨v0, vs0, d0, ds0, p0, q0, rfl, rfl, rfl, h0, hA0⟩ := trodAll_cons hA
    obtain ⟨v1, vs1, d1, ds1, p1, q1, rfl, rfl, rfl, h1, hA1⟩ := trodAll_cons hA0
    obtain ⟨v2, vs2, d2, ds2, p2, q2, rfl, rfl, rfl, h2, hA2⟩ := trodAll_cons hA1
    obtain ⟨v3, vs3, d3, ds3, p3, q3, rfl, rfl, rfl, h3, hA3⟩ := trodAll_cons hA2
    obtain ⟨rfl, rfl, rfl⟩ := trodAll_nil hA3
    obtain ⟨a, wa, ra⟩ := argCell.read (hval 0 38 v0 rfl rfl) h0
    obtain ⟨b, wb, rb⟩ := argWords.read (hval 1 39 v1 rfl rfl) h1
    obtain ⟨c, wc, rc⟩ := argWord.read (hval 2 75 v2 rfl rfl) h2
    obtain ⟨d, wd, rd⟩ := argU8.read (hval 3 5 v3 rfl rfl) h3
    exact ⟨_, .cons ra (.cons rb (.cons rc (.cons rd .nil))), pickput_pure a b wb c wc d wd⟩
theorem expandPickPut_holds : Rows.ExpandPickPutSaid :=
  OpenClaim.holds_of_wide 7 Tryz.f7 rfl rfl rfl rfl rfl rfl rfl ⟨rfl, rfl, rfl, rfl, rfl⟩ rfl rfl rfl rfl rfl (by kernel_rfl) Tryz.func7 (by kernel_rfl)
    (of_decide_eq_true (by kernel_rfl)) (by unfold Func.isWrapper; first | (rw [if_pos (by decide +kernel)]; kernel_rfl) | (rw [if_neg (by decide +kernel)]; exact ⟨rfl, rfl⟩))
    (fun os started H enc _ => expandPickPut_lifted os started H enc)
end Go.Proofs.YtnanajdckbfamaaGreatDoor
