/- The walk of SupervisorStateStaysValid: it returns true. -/
import Derived.Test.YtbnmdfappoeipaaS10
import Derived.Test.YtbnmdfappoeipaaP1
set_option linter.unusedVariables false
set_option linter.unusedSimpArgs false
set_option maxRecDepth 100000
namespace Go.Proofs
open Go Go.Abs
attribute [local irreducible] wpc aSeq awAny endA guardK condK CallK callT aPlan onlyL takeL aeffK takeE loopG bodyA thenA inBlockA planK roundG assignG bodyI endI YieldK unrollG
theorem behind_ok {l : List Tk} : sval (after s0 l l.length) = true := after_valid s0_valid l _
set_option maxHeartbeats 4000000 in
theorem law4 (l : List Tk) (t : Tk) : Pure Try.prog 4 [.sl 3 (tcs l) .unk, t.av] (.bool true) := by
  intro σ ns; refine acalls_of_wpc Try.mixed Try.dr4 Try.func4 rfl (Try.fit4 _ rfl) Try.en4 (fun hσ => ?_); simp [Try.ntmps4]
  first | refine Pure.use_le (head_pure) ?_ | refine callT_le (head_pure) ?_
  simp
  first | refine Pure.use_le (great_pure l) ?_ | refine callT_le (great_pure l) ?_
  simp
  rcases Bool.eq_false_or_eq_true (great l) with hg | hg
  · simp [hg]
    exact endA_eq (by simp) (by simp)
  by_cases ht : (40 : Int) < t.l.length
  · simp [hg, ht]
    exact endA_eq (by simp) (by simp)
  have hv := behind_ok (l := l)
  have hv2 := stepS_valid t.l t.ask t.rest hv
  simp [hg, ht]
  first | refine Pure.use_le (behind_pure l hg) ?_ | refine callT_le (behind_pure l hg) ?_
  simp
  first | refine Pure.use_le (pStep_pure (after s0 l l.length) t.l t.ask t.rest (by omega) hv) ?_ | refine callT_le (pStep_pure (after s0 l l.length) t.l t.ask t.rest (by omega) hv) ?_
  simp
  first | refine Pure.use_le (valid_pure (after s0 l l.length)) ?_ | refine callT_le (valid_pure (after s0 l l.length)) ?_
  simp [hv]
  first | refine Pure.use_le (valid_pure (stepS (after s0 l l.length) t.l t.ask t.rest)) ?_ | refine callT_le (valid_pure (stepS (after s0 l l.length) t.l t.ask t.rest)) ?_
  simp [hv2]
  exact endA_eq (by simp) (by simp)
end Go.Proofs
