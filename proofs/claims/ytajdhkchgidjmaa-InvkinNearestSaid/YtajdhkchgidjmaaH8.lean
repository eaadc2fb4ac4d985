/- InvkinNearest returns true for every input, and each argument reads behind the call as before. Its conditions: the row's own. -/
import Derived.Test.YtajdhkchgidjmaaM8
import Derived.Test.YtajdhkchgidjmaaR2
set_option linter.unusedVariables false
namespace Go.Proofs.Ytajdhkchgidjmaa
open Go Go.Abs Go.ChangeShapes Go.WideShapes Go.ChangeAt Go.RowKit
set_option maxRecDepth 100000 in
theorem invkinNearest_lifted (os : Os) (started : os.Started) (H : Type) (enc : TypeId × Value → H) :
    ReturnsInHanded {} Try.checked os 8 .any (Rows.invkinNearestSpec.pre6 enc Try.prog Try.f8 Rows.invkinNearestRow.domain false) (Rows.invkinNearestSpec.post enc Try.prog Try.f8 false true false false) := by
  refine lifted_of_pure (C := Try.checked) (tb := 4) (n := 4) Try.own started (by kernel_rfl) Try.func8
    (ChangeSpec.witness6 (enc := enc) (C := Try.checked) false ⟨#[], #[.slice none 0 0, .agg #[.int .i64 0, .int .i64 0, .int .i64 0], .agg #[.int .i64 0, .int .i64 0, .int .i64 0], .agg #[.int .i64 0, .int .i64 0, .int .i64 0]], []⟩ 8 (by kernel_rfl) (by kernel_rfl) (by kernel_rfl) (by kernel_rfl))
    Try.laidOut ?_ rfl rfl Try.underlying4 ?_ ?_
  · rw [Try.params8]; intro t ht
    have ht : t = 31 ∨ t = 25 ∨ t = 25 ∨ t = 25 := by simpa using ht
    rcases ht with rfl | rfl | rfl | rfl
    · exact ⟨by kernel_rfl, of_decide_eq_true (by kernel_rfl)⟩
    · exact ⟨by kernel_rfl, of_decide_eq_true (by kernel_rfl)⟩
    · exact ⟨by kernel_rfl, of_decide_eq_true (by kernel_rfl)⟩
    · exact ⟨by kernel_rfl, of_decide_eq_true (by kernel_rfl)⟩
  · intro ds hds
    rw [Try.params8] at hds
    match ds, hds with
    | [d0, d1, d2, d3], _ => rfl
  · intro W base args ds ps hval hA
    rw [Try.params8] at hA hval
    have hargs : args = args.toList.toArray := by simp
    generalize args.toList = vs at hA hargs
    subst hargs
    obtain ⟨v0, vs0, d0, ds0, p0, q0, rfl, rfl, rfl, h0, hA0⟩ := trodAll_cons hA
    obtain ⟨v1, vs1, d1, ds1, p1, q1, rfl, rfl, rfl, h1, hA1⟩ := trodAll_cons hA0
    obtain ⟨v2, vs2, d2, ds2, p2, q2, rfl, rfl, rfl, h2, hA2⟩ := trodAll_cons hA1
    obtain ⟨v3, vs3, d3, ds3, p3, q3, rfl, rfl, rfl, h3, hA3⟩ := trodAll_cons hA2
    obtain ⟨rfl, rfl, rfl⟩ := trodAll_nil hA3
    obtain ⟨a, wa, ra⟩ := argJs.read (hval 0 31 v0 rfl rfl) h0
    obtain ⟨b, wb, rb⟩ := argJ3.read (hval 1 25 v1 rfl rfl) h1
    obtain ⟨c, wc, rc⟩ := argJ3.read (hval 2 25 v2 rfl rfl) h2
    obtain ⟨d, wd, rd⟩ := argJ3.read (hval 3 25 v3 rfl rfl) h3
    exact ⟨_, .cons ra (.cons rb (.cons rc (.cons rd .nil))), law8 a b c d⟩
theorem invkinNearest_holds : Rows.InvkinNearestSaid :=
  OpenClaim.holds_of_wide 8 Try.f8 rfl rfl rfl rfl rfl rfl rfl ⟨rfl, rfl, rfl, rfl, rfl⟩ rfl rfl rfl rfl rfl (by kernel_rfl) Try.func8 (by kernel_rfl)
    (of_decide_eq_true (by kernel_rfl)) (by unfold Func.isWrapper; first | (rw [if_pos (by decide +kernel)]; kernel_rfl) | (rw [if_neg (by decide +kernel)]; exact ⟨rfl, rfl⟩))
    (fun os started H enc _ => invkinNearest_lifted os started H enc)
end Go.Proofs.Ytajdhkchgidjmaa
