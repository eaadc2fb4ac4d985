/- The walk of the examples in head. -/
import Derived.Test.YtfoopknikckojaaW3

set_option linter.unusedVariables false
set_option maxRecDepth 100000
set_option linter.unusedSimpArgs false
namespace Go.Proofs
open Go Go.Abs
attribute [local irreducible] wpc aSeq awAny endA guardK condK CallK callT aPlan onlyL takeL aeffK takeE loopG bodyA thenA inBlockA
set_option maxHeartbeats 4000000 in
theorem head_pure : Pure Try.prog 9 [] (.bool true) := by
  have e1 : receive ⟨0, ⟨0, 0, []⟩⟩ ⟨1, 1, []⟩ = (⟨1, ⟨0, 0, []⟩⟩, true, ⟨0, 0, []⟩) := by rfl
  have e2 : receive ⟨1, ⟨0, 0, []⟩⟩ ⟨1, 1, []⟩ = (⟨1, ⟨0, 0, []⟩⟩, false, ⟨0, 0, []⟩) := by rfl
  have e3 : receive ⟨1, ⟨0, 0, []⟩⟩ ⟨2, 3, []⟩ = (⟨1, ⟨0, 0, []⟩⟩, false, ⟨2, 331, []⟩) := by rfl
  have e4 : complete ⟨1, ⟨0, 0, []⟩⟩ [4, 5] = (⟨1, ⟨1, 9, [4, 5]⟩⟩, ⟨1, 9, [4, 5]⟩) := by rfl
  have e5 : receive ⟨1, ⟨1, 9, [4, 5]⟩⟩ ⟨1, 2, []⟩ = (⟨1, ⟨1, 9, [4, 5]⟩⟩, false, ⟨1, 9, [4, 5]⟩) := by rfl
  have e6 : receive ⟨1, ⟨1, 9, [4, 5]⟩⟩ ⟨0, 5, []⟩ = (⟨1, ⟨1, 9, [4, 5]⟩⟩, false, ⟨0, 330, []⟩) := by rfl
  have e7 : receive ⟨1, ⟨1, 9, [4, 5]⟩⟩ ⟨2, 6, []⟩ = (⟨1, ⟨1, 9, [4, 5]⟩⟩, false, ⟨2, 4, []⟩) := by rfl
  intro σ ns
  refine acalls_of_wpc Try.mixed Try.func9 rfl Try.en9 ?_
  simp [Try.ntmps9]
  refine Pure.use_le (Receive_pure ⟨0, ⟨0, 0, []⟩⟩ ⟨1, 1, []⟩) ?_
  simp [e1]
  refine Pure.use_le (Receive_pure ⟨1, ⟨0, 0, []⟩⟩ ⟨1, 1, []⟩) ?_
  simp [e2]
  refine Pure.use_le (Receive_pure ⟨1, ⟨0, 0, []⟩⟩ ⟨2, 3, []⟩) ?_
  simp [e3]
  refine Pure.use_le (args' := [(Ses.mk 1 ⟨0, 0, []⟩).av, .sl 1 [[.int .i64 4], [.int .i64 5]] .unk]) (Complete_pure ⟨1, ⟨0, 0, []⟩⟩ [4, 5] (by simp)) ?_
  simp [e4]
  refine Pure.use_le (args' := [AV.agg [.int .i64 1, .int .i64 1, .int .i64 9, .sl 1 [[.int .i64 4], [.int .i64 5]] .unk], (Msg.mk 1 2 []).av]) (Receive_pure ⟨1, ⟨1, 9, [4, 5]⟩⟩ ⟨1, 2, []⟩) ?_
  simp [e5]
  refine Pure.use_le (args' := [AV.agg [.int .i64 1, .int .i64 1, .int .i64 9, .sl 1 [[.int .i64 4], [.int .i64 5]] .unk], (Msg.mk 0 5 []).av]) (Receive_pure ⟨1, ⟨1, 9, [4, 5]⟩⟩ ⟨0, 5, []⟩) ?_
  simp [e6]
  refine Pure.use_le (args' := [AV.agg [.int .i64 1, .int .i64 1, .int .i64 9, .sl 1 [[.int .i64 4], [.int .i64 5]] .unk], (Msg.mk 2 6 []).av]) (Receive_pure ⟨1, ⟨1, 9, [4, 5]⟩⟩ ⟨2, 6, []⟩) ?_
  simp [e7]
  refine Pure.use_le (Same_pure ⟨1, ⟨0, 0, []⟩⟩ ⟨1, ⟨0, 0, []⟩⟩ (by simp)) ?_
  simp [sameMsg]
  refine Pure.use_le (args' := [AV.agg [.int .i64 1, .int .i64 9, .sl 1 [[.int .i64 4], [.int .i64 5]] .unk], AV.agg [.int .i64 1, .int .i64 9, .sl 1 [[.int .i64 4], [.int .i64 5]] .unk]]) (SameMsg_pure ⟨1, 9, [4, 5]⟩ ⟨1, 9, [4, 5]⟩ (by simp)) ?_
  simp [sameMsg]
  refine Pure.use_le (args' := [AV.agg [.int .i64 1, .int .i64 9, .sl 1 [[.int .i64 4], [.int .i64 5]] .unk], AV.agg [.int .i64 1, .int .i64 9, .sl 1 [[.int .i64 4], [.int .i64 5]] .unk]]) (SameMsg_pure ⟨1, 9, [4, 5]⟩ ⟨1, 9, [4, 5]⟩ (by simp)) ?_
  simp [sameMsg]
  refine Pure.use_le (args' := [AV.agg [.int .i64 1, .int .i64 1, .int .i64 9, .sl 1 [[.int .i64 4], [.int .i64 5]] .unk]]) (Valid_pure ⟨1, ⟨1, 9, [4, 5]⟩⟩) ?_
  simp [valid]
  refine Pure.use_le (Valid_pure ⟨-1, ⟨0, 0, []⟩⟩) ?_
  simp [valid]

  exact endA_pure (by simp)
end Go.Proofs
