/- SessionProgress returns true for every input, and each argument reads behind the call as before. Its conditions: the row's own. -/
import Derived.Test.YtfoopknikckojaaL7
import Derived.Test.YtfoopknikckojaaR
set_option linter.unusedVariables false
namespace Go.Proofs.Ytfoopknikckojaa
open Go Go.Abs Go.ChangeShapes Go.WideShapes Go.ChangeAt Go.RowKit
theorem reads44 : Reads Try.prog 44 (fun l : List Int => [.sl 1 (bytes l) .unk]) (fun l => l.length ≤ maxLen ∧ ∀ x ∈ l, IntKind.u8.min ≤ x ∧ x ≤ IntKind.u8.max) := .slice Try.underlying44 (by kernel_rfl) (by omega) reads5
theorem arg44 : ArgReads Try.prog 44 (fun l : List Int => .sl 1 (bytes l) .unk) (fun l => l.length ≤ maxLen ∧ ∀ x ∈ l, IntKind.u8.min ≤ x ∧ x ≤ IntKind.u8.max) := reads44.arg_slice Try.underlying44
theorem reads4 : Reads Try.prog 4 (fun b : Bool => [.bool b]) (fun _ => True) := .bool Try.underlying4
theorem reads45 : Reads Try.prog 45 (fun l : List Bool => [.sl 1 (bools l) .unk]) (fun l => l.length ≤ maxLen ∧ ∀ x ∈ l, True) := .slice Try.underlying45 (by kernel_rfl) (by omega) reads4
theorem arg45 : ArgReads Try.prog 45 (fun l : List Bool => .sl 1 (bools l) .unk) (fun l => l.length ≤ maxLen ∧ ∀ x ∈ l, True) := reads45.arg_slice Try.underlying45
set_option maxRecDepth 100000 in
theorem sessionProgress_lifted (os : Os) (started : os.Started) (H : Type) (enc : TypeId × Value → H) :
    ReturnsInHanded {} Try.checked os 7 .any (Rows.sessionProgressSpec.pre6 enc Try.prog Try.f7 Rows.sessionProgressRow.domain false) (Rows.sessionProgressSpec.post enc Try.prog Try.f7 false true false false) := by
  refine lifted_of_pure (C := Try.checked) (tb := 4) (n := 2) Try.own started (by kernel_rfl) Try.func7
    (ChangeSpec.witness6 (enc := enc) (C := Try.checked) false ⟨#[], #[.slice none 0 0, .slice none 0 0], []⟩ 8 (by kernel_rfl) (by kernel_rfl) (by kernel_rfl) (by kernel_rfl))
    Try.laidOut ?_ rfl rfl Try.underlying4 ?_ ?_
  · rw [Try.params7]; intro t ht
    have ht : t = 44 ∨ t = 45 := by simpa using ht
    rcases ht with rfl | rfl
    · exact ⟨by kernel_rfl, of_decide_eq_true (by kernel_rfl)⟩
    · exact ⟨by kernel_rfl, of_decide_eq_true (by kernel_rfl)⟩
  · intro ds hds
    rw [Try.params7] at hds
    match ds, hds with
    | [d0, d1], _ => rfl
  · intro W base args ds ps hval hA
    rw [Try.params7] at hA hval
    have hargs : args = args.toList.toArray := by simp
    generalize args.toList = vs at hA hargs
    subst hargs
    obtain ⟨v0, vs0, d0, ds0, p0, q0, rfl, rfl, rfl, h0, hA0⟩ := trodAll_cons hA
    obtain ⟨v1, vs1, d1, ds1, p1, q1, rfl, rfl, rfl, h1, hA1⟩ := trodAll_cons hA0
    obtain ⟨rfl, rfl, rfl⟩ := trodAll_nil hA1
    obtain ⟨a, wa, ra⟩ := arg44.read (hval 0 44 v0 rfl rfl) h0
    obtain ⟨b, wb, rb⟩ := arg45.read (hval 1 45 v1 rfl rfl) h1
    exact ⟨_, .cons ra (.cons rb .nil), law7 a b wa.2⟩
theorem sessionProgress_holds : Rows.SessionProgressSaid :=
  OpenClaim.holds_of_wide 7 Try.f7 rfl rfl rfl rfl rfl rfl rfl ⟨rfl, rfl, rfl, rfl, rfl⟩ rfl rfl rfl rfl rfl (by kernel_rfl) Try.func7 (by kernel_rfl)
    (of_decide_eq_true (by kernel_rfl)) (by unfold Func.isWrapper; first | (rw [if_pos (by decide +kernel)]; kernel_rfl) | (rw [if_neg (by decide +kernel)]; exact ⟨rfl, rfl⟩))
    (fun os started H enc _ => sessionProgress_lifted os started H enc)
end Go.Proofs.Ytfoopknikckojaa
