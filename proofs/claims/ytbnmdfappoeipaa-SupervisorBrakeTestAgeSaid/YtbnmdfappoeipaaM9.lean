/- The walk of SupervisorBrakeTestAge: it returns true. -/
import Derived.Test.YtbnmdfappoeipaaM4
set_option linter.unusedVariables false
set_option linter.unusedSimpArgs false
set_option maxRecDepth 100000
namespace Go.Proofs
open Go Go.Abs
attribute [local irreducible] wpc aSeq awAny endA guardK condK CallK callT aPlan onlyL takeL aeffK takeE loopG bodyA thenA inBlockA planK roundG assignG bodyI endI YieldK unrollG
set_option maxHeartbeats 4000000 in
theorem law9 (l : List Tk) (t : Tk) : Pure Try.prog 9 [.sl 3 (tcs l) .unk, t.av] (.bool true) := by
  intro σ ns; refine acalls_of_wpc Try.mixed Try.dr9 Try.func9 rfl (Try.fit9 _ rfl) Try.en9 (fun hσ => ?_); simp [Try.ntmps9]
  first | refine Pure.use_le (head_pure) ?_ | refine callT_le (head_pure) ?_
  simp
  first | refine Pure.use_le (great_pure l) ?_ | refine callT_le (great_pure l) ?_
  simp
  rcases Bool.eq_false_or_eq_true (great l) with hg | hg
  · simp [hg]
    exact endA_eq (by simp) (by simp)
  by_cases ht : (40 : Int) < t.l.length
  · simp [hg, ht]
    exact endA_eq (by simp) (by simp)
  have hv := behind_ok (l := l)
  have hlen := (great_false hg).1
  have hage := after_age l l.length (Nat.le_refl _) hlen
  have hk := (sval_iff.1 hv).1
  have hlaw := age_law (s := after s0 l l.length) ⟨by omega, by omega⟩ t.l t.ask t.rest
  have hb0 := hk.t0
  have hb1 := hk.t1
  simp [hg, ht]
  first | refine Pure.use_le (behind_pure l hg) ?_ | refine callT_le (behind_pure l hg) ?_
  simp
  first | refine Pure.use_le (pStep_pure (after s0 l l.length) t.l t.ask t.rest (by omega) hv) ?_ | refine callT_le (pStep_pure (after s0 l l.length) t.l t.ask t.rest (by omega) hv) ?_
  generalize after s0 l l.length = w at *
  generalize stepS w t.l t.ask t.rest = x at *
  simp
  have w0 : IntKind.wrap .i64 (w.t0 + 1) = w.t0 + 1 := wrap64 (by omega) (by omega)
  have w1 : IntKind.wrap .i64 (w.t1 + 1) = w.t1 + 1 := wrap64 (by omega) (by omega)
  by_cases hm : x.mode = 4
  · rcases Bool.eq_false_or_eq_true t.rest with hr | hr
    · have := hlaw.1 ⟨hm, hr⟩
      simp [hm, hr, aeq2, this]
      exact endA_eq (by simp) (by simp)
    · have := hlaw.2 (by simp [hr])
      simp [hm, hr, aeq2, this, w0, w1]
      exact endA_eq (by simp) (by simp)
  · have := hlaw.2 (by simp [hm])
    simp [ne_beq hm, aeq2, this, w0, w1]
    exact endA_eq (by simp) (by simp)
end Go.Proofs
