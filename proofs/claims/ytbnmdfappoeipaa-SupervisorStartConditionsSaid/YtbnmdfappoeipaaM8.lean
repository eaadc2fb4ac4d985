/- The walk of SupervisorStartConditions: it returns true. -/
import Derived.Test.YtbnmdfappoeipaaM4
set_option linter.unusedVariables false
set_option linter.unusedSimpArgs false
set_option maxRecDepth 100000
namespace Go.Proofs
open Go Go.Abs
attribute [local irreducible] wpc aSeq awAny endA guardK condK CallK callT aPlan onlyL takeL aeffK takeE loopG bodyA thenA inBlockA planK roundG assignG bodyI endI YieldK unrollG
set_option maxHeartbeats 4000000 in
theorem law8 (l : List Tk) (t : Tk) : Pure Try.prog 8 [.sl 3 (tcs l) .unk, t.av] (.bool true) := by
  intro σ ns; refine acalls_of_wpc Try.mixed Try.dr8 Try.func8 rfl (Try.fit8 _ rfl) Try.en8 (fun hσ => ?_); simp [Try.ntmps8]
  first | refine Pure.use_le (head_pure) ?_ | refine callT_le (head_pure) ?_
  simp
  first | refine Pure.use_le (great_pure l) ?_ | refine callT_le (great_pure l) ?_
  simp
  rcases Bool.eq_false_or_eq_true (great l) with hg | hg
  · simp [hg]
    exact endA_eq (by simp) (by simp)
  by_cases ht : (40 : Int) < t.l.length
  · simp [hg, ht]
    exact endA_eq (by simp) (by simp)
  have hv := behind_ok (l := l)
  have hlaw := start_law hv t.l t.ask t.rest
  simp [hg, ht]
  first | refine Pure.use_le (behind_pure l hg) ?_ | refine callT_le (behind_pure l hg) ?_
  simp
  first | refine Pure.use_le (pStep_pure (after s0 l l.length) t.l t.ask t.rest (by omega) hv) ?_ | refine callT_le (pStep_pure (after s0 l l.length) t.l t.ask t.rest (by omega) hv) ?_
  have hcmd := pCmd_pure (stepS (after s0 l l.length) t.l t.ask t.rest)
  generalize after s0 l l.length = w at *
  generalize stepS w t.l t.ask t.rest = x at *
  generalize stepE w t.l t.ask t.rest = e at *
  simp
  by_cases h2 : x.mode = 2 ∧ ¬ w.mode = 2
  · have := hlaw.1 h2.1 h2.2
    obtain ⟨k1, k2, k3, k4⟩ := this
    simp [h2.1, ne_bne h2.2, k1, k2, k4]
    first | refine Pure.use_le (asks_pure t.l (by omega)) ?_ | refine callT_le (asks_pure t.l (by omega)) ?_
    simp [k3]
    exact endA_eq (by simp) (by simp)
  by_cases hx : x.mode = 2
  · have hw : w.mode = 2 := Classical.not_not.1 fun e => h2 ⟨hx, e⟩
    simp [hx, hw]
    by_cases a2 : t.ask = 2
    · have := hlaw.2.1 (.inl a2)
      simp [a2]
      first | refine Pure.use_le (hcmd) ?_ | refine callT_le (hcmd) ?_
      simp [ne_bne this.1, this.2]
      exact endA_eq (by simp) (by simp)
    by_cases a3 : t.ask = 3
    · have := hlaw.2.1 (.inr a3)
      simp [a3]
      first | refine Pure.use_le (hcmd) ?_ | refine callT_le (hcmd) ?_
      simp [ne_bne this.1, this.2]
      exact endA_eq (by simp) (by simp)
    by_cases e1 : e = 1
    · rcases hlaw.2.2 e1 with h | h
      · simp [ne_beq a2, ne_beq a3, e1, h]
        exact endA_eq (by simp) (by simp)
      · simp [ne_beq a2, ne_beq a3, e1, h]
        repeat' first
          | (refine guardK_cases (fun hh => ?_) (fun hh => ?_) <;> simp [hh, h])
        all_goals exact endA_eq (by simp) (by simp)
    · simp [ne_beq a2, ne_beq a3, ne_bne e1]
      exact endA_eq (by simp) (by simp)
  · simp [ne_beq hx]
    by_cases a2 : t.ask = 2
    · have := hlaw.2.1 (.inl a2)
      simp [a2]
      first | refine Pure.use_le (hcmd) ?_ | refine callT_le (hcmd) ?_
      simp [ne_bne this.1, this.2]
      exact endA_eq (by simp) (by simp)
    by_cases a3 : t.ask = 3
    · have := hlaw.2.1 (.inr a3)
      simp [a3]
      first | refine Pure.use_le (hcmd) ?_ | refine callT_le (hcmd) ?_
      simp [ne_bne this.1, this.2]
      exact endA_eq (by simp) (by simp)
    by_cases e1 : e = 1
    · rcases hlaw.2.2 e1 with h | h
      · simp [ne_beq a2, ne_beq a3, e1, h]
        exact endA_eq (by simp) (by simp)
      · simp [ne_beq a2, ne_beq a3, e1, h]
        repeat' first
          | (refine guardK_cases (fun hh => ?_) (fun hh => ?_) <;> simp [hh, h])
        all_goals exact endA_eq (by simp) (by simp)
    · simp [ne_beq a2, ne_beq a3, ne_bne e1]
      exact endA_eq (by simp) (by simp)
end Go.Proofs
