/- The walk of SessionRejectsNonRequests: it returns true. -/
import Derived.Test.YtfoopknikckojaaP
set_option linter.unusedVariables false
set_option linter.unusedSimpArgs false
set_option maxRecDepth 100000
namespace Go.Proofs
open Go Go.Abs
attribute [local irreducible] wpc aSeq awAny endA guardK condK CallK callT aPlan onlyL takeL aeffK takeE loopG bodyA thenA inBlockA
theorem receive_form (t : Ses) (s k : Int) (n : List Int) (h : ¬ (1 ≤ k ∧ k ≤ 5)) : receive t ⟨s, k, n⟩ = (t, false, ⟨s, 4, []⟩) := by
  have : rc t ⟨s, k, n⟩ 0 = true := by simp [rc]; omega
  simp [receive, this]
theorem complete_twice (t : Ses) (n : List Int) : complete (complete t n).1 n = ((complete t n).1, ⟨0, 0, []⟩) := by
  by_cases h : (decide (0 < t.last) && (t.reply.kind == 0)) = true
  · have e : (complete t n).1 = ⟨t.last, ⟨t.last, 9, n⟩⟩ := by unfold complete; rw [if_pos h]
    rw [e]; unfold complete; rw [if_neg (by simp)]
  · have e : (complete t n).1 = t := by unfold complete; rw [if_neg h]
    rw [e]; unfold complete; rw [if_neg h]
set_option maxHeartbeats 4000000 in
theorem law8 (l : List Wd) (s k : Int) (n : List Int) : Pure Try.prog 8 [wds l, .int .i64 s, .int .i64 k, .sl 1 (ints n) .unk] (.bool true) := by
  intro σ ns
  refine acalls_of_wpc Try.mixed Try.func8 rfl Try.en8 ?_
  simp [Try.ntmps8]
  refine Pure.use_le head_pure ?_
  simp
  refine Pure.use_le (Great_pure l) ?_
  simp
  refine guardK_cases (fun h => ?_) (fun h => ?_)
  · simp [h]
    exact endA_pure (by simp)
  simp [h]
  refine guardK_cases (fun h1 => ?_) (fun h1 => ?_)
  · simp [h1]
    exact endA_pure (by simp)
  simp [h1]
  simp at h1
  have main : ¬ (1 ≤ k ∧ k ≤ 5) → True := fun _ => trivial
  by_cases hk : 1 ≤ k ∧ k ≤ 5
  · have a1 := hk.1
    have a2 := hk.2
    simp [a1, a2]
    exact endA_pure (by simp)
  have e1 : ∀ t, receive t ⟨s, k, n⟩ = (t, false, ⟨s, 4, []⟩) := fun t => receive_form t s k n hk
  refine guardK_cases (fun h2 => ?_) (fun h2 => ?_)
  · simp at h2
    have a2 : ¬ k ≤ 5 := fun h => hk ⟨h2, h⟩
    simp [h2, a2]
    refine Pure.use_le (Behind_pure l h) ?_
    simp
    have hv := valid_behind h
    generalize behind l = t at hv
    refine Pure.use_le (Receive_pure t ⟨s, k, n⟩) ?_
    simp [e1]
    refine Pure.use_le (Complete_pure t n (by omega)) ?_
    simp
    refine Pure.use_le (Complete_pure (complete t n).1 n (by omega)) ?_
    simp [complete_twice]
    refine Pure.use_le (Same_pure t t (by have := valid_nums hv; omega)) ?_
    simp [sameMsg]
    refine Pure.use_le (Same_pure (complete t n).1 (complete t n).1 (by have := valid_nums (valid_complete (l := n) hv (by omega)); omega)) ?_
    simp [sameMsg]
    exact endA_pure (by simp)
  · simp at h2
    have a1 : ¬ 1 ≤ k := by omega
    simp [a1]
    refine Pure.use_le (Behind_pure l h) ?_
    simp
    have hv := valid_behind h
    generalize behind l = t at hv
    refine Pure.use_le (Receive_pure t ⟨s, k, n⟩) ?_
    simp [e1]
    refine Pure.use_le (Complete_pure t n (by omega)) ?_
    simp
    refine Pure.use_le (Complete_pure (complete t n).1 n (by omega)) ?_
    simp [complete_twice]
    refine Pure.use_le (Same_pure t t (by have := valid_nums hv; omega)) ?_
    simp [sameMsg]
    refine Pure.use_le (Same_pure (complete t n).1 (complete t n).1 (by have := valid_nums (valid_complete (l := n) hv (by omega)); omega)) ?_
    simp [sameMsg]
    exact endA_pure (by simp)
end Go.Proofs
