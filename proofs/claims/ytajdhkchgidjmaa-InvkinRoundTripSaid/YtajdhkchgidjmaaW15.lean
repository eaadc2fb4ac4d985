/- Walks: arguments of the laws. -/
import Derived.Test.YtajdhkchgidjmaaW10
import Derived.Test.YtajdhkchgidjmaaW14
set_option linter.unusedVariables false
set_option linter.unusedSimpArgs false
set_option maxRecDepth 100000
namespace Go.Proofs
open Go Go.Abs
attribute [local irreducible] wpc aSeq awAny endA guardK condK CallK callT aPlan onlyL takeL aeffK takeE loopG bodyA thenA inBlockA planK roundG assignG bodyI endI YieldK unrollG
def mayArgs (a : Ar) (at' : V2) (d : Dr) : Bool := right a && may at' && valid d && (d.n == 3)
theorem may8_pure (a : Ar) (at' : V2) (d : Dr) : Pure Try.prog 12 [a.av, at'.av, d.av] (.bool (mayArgs a at' d)) := by
  intro σ ns; refine acalls_of_wpc Try.mixed Try.dr12 Try.func12 rfl (Try.fit12 _ rfl) Try.en12 (fun hσ => ?_); simp [Try.ntmps12]
  refine Pure.use_le (right7_pure a) ?_
  simp
  refine Pure.use_le (May_pure at') ?_
  simp
  refine Pure.use_le (Right_pure d) ?_
  simp
  repeat' first
    | (refine guardK_cases (fun h => ?_) (fun h => ?_) <;> simp [h])
  all_goals exact endA_eq (by simp_all [mayArgs]) (by simp)
abbrev rawav (r : J3) : AV := .agg [.int .u8 r.a, .int .u8 r.b, .int .u8 r.c]
def jointOf (a : Ar) (r : J3) : J3 := ⟨a.low.a + r.a % (a.high.a - a.low.a + 1), a.low.b + r.b % (a.high.b - a.low.b + 1), a.low.c + r.c % (a.high.c - a.low.c + 1)⟩
def rawOk (r : J3) : Prop := (0 ≤ r.a ∧ r.a ≤ 255) ∧ (0 ≤ r.b ∧ r.b ≤ 255) ∧ 0 ≤ r.c ∧ r.c ≤ 255
theorem joint_pure (a : Ar) (r : J3) (h : RightP a) (hr : rawOk r) : Pure Try.prog 17 [a.av, rawav r] (jointOf a r).av := by
  have hlo := h.low
  have hhi := h.high
  have hrg := h.rg
  unfold rawOk at hr
  obtain ⟨b0, le, wi, ⟨l0, l1, l2⟩, ⟨g0, g1, g2⟩⟩ := a
  obtain ⟨r0, r1, r2⟩ := r
  simp only at hlo hhi hrg hr
  have key : ∀ l g r : Int, -17 ≤ l → l ≤ g → g ≤ 18 → 0 ≤ r → r ≤ 255 → IntKind.wrap .i64 r = r ∧ IntKind.wrap .i64 (g - l) = g - l ∧ IntKind.wrap .i64 (g - l + 1) = g - l + 1 ∧ ¬ (g - l + 1 = 0) ∧ r.tmod (g - l + 1) = r % (g - l + 1) ∧ IntKind.wrap .i64 (r % (g - l + 1)) = r % (g - l + 1) ∧ IntKind.wrap .i64 (l + r % (g - l + 1)) = l + r % (g - l + 1) := by
    intro l g r h1 h2 h3 h4 h5
    have m1 := Int.emod_nonneg r (b := g - l + 1) (by omega)
    have m2 := Int.emod_lt_of_pos r (b := g - l + 1) (by omega)
    exact ⟨wrap64 (by omega) (by omega), wrap64 (by omega) (by omega), wrap64 (by omega) (by omega), by omega, Int.tmod_eq_emod_of_nonneg h4, wrap64 (by omega) (by omega), wrap64 (by omega) (by omega)⟩
  have k0 := key l0 g0 r0 (by omega) (by omega) (by omega) (by omega) (by omega)
  have k1 := key l1 g1 r1 (by omega) (by omega) (by omega) (by omega) (by omega)
  have k2 := key l2 g2 r2 (by omega) (by omega) (by omega) (by omega) (by omega)
  intro σ ns; refine acalls_of_wpc Try.mixed Try.dr17 Try.func17 rfl (Try.fit17 _ rfl) Try.en17 (fun hσ => ?_); simp [Try.ntmps17]
  refine wpc_unroll 3 (fun k => ?_)
  simp [k0]
  refine unroll_next (fun k' => ?_)
  simp [k1]
  refine unroll_next (fun k'' => ?_)
  simp [k2]
  refine unroll_next (fun k3 => ?_)
  simp
  exact endA_eq (by simp [jointOf]) (by simp)
theorem jointOf_fits (a : Ar) (r : J3) (h : RightP a) : fits a (jointOf a r) = true := by
  have hlo := h.low
  have hhi := h.high
  have hrg := h.rg
  have m0 := Int.emod_nonneg r.a (b := a.high.a - a.low.a + 1) (by omega)
  have n0 := Int.emod_lt_of_pos r.a (b := a.high.a - a.low.a + 1) (by omega)
  have m1 := Int.emod_nonneg r.b (b := a.high.b - a.low.b + 1) (by omega)
  have n1 := Int.emod_lt_of_pos r.b (b := a.high.b - a.low.b + 1) (by omega)
  have m2 := Int.emod_nonneg r.c (b := a.high.c - a.low.c + 1) (by omega)
  have n2 := Int.emod_lt_of_pos r.c (b := a.high.c - a.low.c + 1) (by omega)
  unfold fits jointOf
  rw [Bool.and_eq_true, Bool.and_eq_true]
  refine ⟨⟨decide_eq_true ?_, decide_eq_true ?_⟩, decide_eq_true ?_⟩ <;> dsimp only <;> omega
end Go.Proofs
