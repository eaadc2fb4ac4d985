/- The walk of SessionStateStaysValid: it returns true. -/
import Derived.Test.YtfoopknikckojaaP
set_option linter.unusedVariables false
set_option linter.unusedSimpArgs false
set_option maxRecDepth 100000
namespace Go.Proofs
open Go Go.Abs
attribute [local irreducible] wpc aSeq awAny endA guardK condK CallK callT aPlan onlyL takeL aeffK takeE loopG bodyA thenA inBlockA
set_option maxHeartbeats 4000000 in
theorem law5 (l : List Wd) (x : Wd) : Pure Try.prog 5 [wds l, .agg x.cells] (.bool true) := by
  intro σ ns
  refine acalls_of_wpc Try.mixed Try.func5 rfl Try.en5 ?_
  simp [Try.ntmps5]
  refine Pure.use_le head_pure ?_
  simp
  refine Pure.use_le (Great_pure l) ?_
  simp
  refine guardK_cases (fun h => ?_) (fun h => ?_)
  · simp [h]
    exact endA_pure (by simp)
  simp [h]
  refine condK_cases (fun h1 => ?_) (fun h1 => ?_)
  · simp
    exact endA_pure (by simp)
  simp at h1
  simp
  refine Pure.use_le (Behind_pure l h) ?_
  simp
  have hv := valid_behind h
  generalize behind l = t at hv
  refine wpc_draw (id := 5) [.take 1 [8, 9] [] [2, 3, 4, 5, 6, 7, 10, 11, 12], .take 2 [] [] [3, 4, 5, 6, 7, 10, 11, 12], .take 0 [8, 9] [] [3, 4, 5, 6, 7, 10, 11, 12], .take 3 [] [] [4, 5, 6, 7, 10, 11, 12], .take 4 [] [] [5, 6, 7, 10, 11, 12], .take 5 [] [] [10, 11, 12], .take 6 [] [] [11, 12], .take 7 [] [] [12], .take 8 [] [] [10, 11, 12], .only 9, .only 10, .only 11, .only 12] (by kernel_rfl) ?_
  simp [Nm.under_sub]
  refine callT_le (msg_pure x) ?_
  simp
  refine callT_le (Receive_pure t (msgOf x)) ?_
  simp
  refine Pure.use_le (Complete_pure t x.nums (by omega)) ?_
  simp
  refine Pure.use_le (Valid_pure t) ?_
  simp [hv]
  refine Pure.use_le (Valid_pure (receive t (msgOf x)).1) ?_
  have hv1 := valid_receive (m := msgOf x) hv
  simp [hv1]
  refine Pure.use_le (Valid_pure (complete t x.nums).1) ?_
  have hv2 := valid_complete (l := x.nums) hv (by omega)
  simp [hv2]
  refine guardK_cases (fun h2 => ?_) (fun h2 => ?_)
  · simp [h2]
    exact endA_pure (by simp)
  · simp [h2]
    have e : (receive t (msgOf x)).1 = t := by
      rcases receive_cases t (msgOf x) with ⟨_, h1⟩ | ⟨h1, _⟩
      · exact h1
      · rw [h1] at h2; cases h2
    rw [e]
    refine Pure.use_le (Same_pure t t (by have := valid_nums hv; omega)) ?_
    simp [sameMsg]
    exact endA_pure (by simp)
end Go.Proofs
