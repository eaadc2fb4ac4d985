/- The walk of SupervisorCategoryNeverImproves: it returns true. -/
import Derived.Test.YtbnmdfappoeipaaM4
set_option linter.unusedVariables false
set_option linter.unusedSimpArgs false
set_option maxRecDepth 100000
namespace Go.Proofs
open Go Go.Abs
attribute [local irreducible] wpc aSeq awAny endA guardK condK CallK callT aPlan onlyL takeL aeffK takeE loopG bodyA thenA inBlockA planK roundG assignG bodyI endI YieldK unrollG
set_option maxHeartbeats 4000000 in
theorem law6 (l : List Tk) (t : Tk) : Pure Try.prog 6 [.sl 3 (tcs l) .unk, t.av] (.bool true) := by
  intro σ ns; refine acalls_of_wpc Try.mixed Try.dr6 Try.func6 rfl (Try.fit6 _ rfl) Try.en6 (fun hσ => ?_); simp [Try.ntmps6]
  first | refine Pure.use_le (head_pure) ?_ | refine callT_le (head_pure) ?_
  simp
  first | refine Pure.use_le (great_pure l) ?_ | refine callT_le (great_pure l) ?_
  simp
  rcases Bool.eq_false_or_eq_true (great l) with hg | hg
  · simp [hg]
    exact endA_eq (by simp) (by simp)
  by_cases ht : (40 : Int) < t.l.length
  · simp [hg, ht]
    exact endA_eq (by simp) (by simp)
  have hv := behind_ok (l := l)
  have hlaw := cat_law hv t.l t.ask t.rest
  simp [hg, ht]
  first | refine Pure.use_le (behind_pure l hg) ?_ | refine callT_le (behind_pure l hg) ?_
  simp
  first | refine Pure.use_le (pStep_pure (after s0 l l.length) t.l t.ask t.rest (by omega) hv) ?_ | refine callT_le (pStep_pure (after s0 l l.length) t.l t.ask t.rest (by omega) hv) ?_
  generalize after s0 l l.length = w at *
  generalize stepS w t.l t.ask t.rest = x at *
  simp
  first | refine Pure.use_le (asks_pure t.l (by omega)) ?_ | refine callT_le (asks_pure t.l (by omega)) ?_
  simp
  generalize vmin t.l = c at *
  by_cases h1 : w.mode = 1
  · have := hlaw.1 (.inl (.inl h1))
    by_cases hc : c = 3
    · simp [h1, hc]
      exact endA_eq (by simp) (by simp)
    · have h3 := this.resolve_left hc
      simp [h1, ne_beq hc, h3.1, ne_bne h3.2.1, ne_bne h3.2.2]
      exact endA_eq (by simp) (by simp)
  by_cases h2 : w.mode = 2
  · have := hlaw.1 (.inl (.inr h2))
    by_cases hc : c = 3
    · simp [h2, hc]
      exact endA_eq (by simp) (by simp)
    · have h3 := this.resolve_left hc
      simp [h2, ne_beq hc, h3.1, ne_bne h3.2.1, ne_bne h3.2.2]
      exact endA_eq (by simp) (by simp)
  by_cases h3 : x.mode = 1
  · have := hlaw.1 (.inr h3)
    by_cases hc : c = 3
    · simp [ne_beq h1, ne_beq h2, h3, hc]
      exact endA_eq (by simp) (by simp)
    · exact absurd h3 (this.resolve_left hc).2.1
  have := hlaw.2 (by omega)
  by_cases h4 : w.mode = 4
  · simp [ne_beq h1, ne_beq h2, ne_beq h3, this.1, show (w.mode == 4) = true by simp [h4]]
    exact endA_eq (by simp) (by simp)
  · simp [ne_beq h1, ne_beq h2, ne_beq h3, this.1, ne_beq h4, this.2.resolve_left h4]
    exact endA_eq (by simp) (by simp)
end Go.Proofs
