/- The walk of the fixed examples. -/
import Derived.Test.YtajdhkchgidjmaaP2
set_option linter.unusedVariables false
set_option linter.unusedSimpArgs false
set_option maxRecDepth 100000
namespace Go.Proofs
open Go Go.Abs
attribute [local irreducible] wpc aSeq awAny endA guardK condK CallK callT aPlan onlyL takeL aeffK takeE loopG bodyA thenA inBlockA planK roundG assignG bodyI endI YieldK unrollG
theorem plain_pure : Pure Try.prog 29 [.int .i64 2, .int .i64 1, .int .i64 1] ar211.av := by
  intro σ ns; refine acalls_of_wpc Try.mixed Try.dr29 Try.func29 rfl (Try.fit29 _ rfl) Try.en29 (fun hσ => ?_); simp [Try.ntmps29]
  exact endA_eq (by simp [ar211]) (by simp)
theorem solve_a : Pure Try.prog 14 [ar211.av, .agg [.int .i64 0, .int .i64 0], .agg [.int .i64 (-274625), .int .i64 0, .int .i64 3]] (.sl 3 (jcs [⟨0, 18, 0⟩]) .unk) := by
  have := solve_pure ar211 (0, 0) ⟨-274625, 0, 3⟩ (right_spec right_211) valid_back (by simp)
  rwa [sol_a] at this
theorem solve_b : Pure Try.prog 14 [ar211.av, .agg [.int .i64 17576000, .int .i64 0], .agg [.int .i64 274625, .int .i64 0, .int .i64 3]] (.sl 3 (jcs [⟨0, 0, 0⟩]) .unk) := by
  have := solve_pure ar211 (17576000, 0) ⟨274625, 0, 3⟩ (right_spec right_211) valid_ahead (by simp)
  rwa [sol_b] at this
theorem solve_c : Pure Try.prog 14 [ar211.av, .agg [.int .i64 21970000, .int .i64 0], .agg [.int .i64 274625, .int .i64 0, .int .i64 3]] (.sl 3 (jcs []) .unk) := by
  have := solve_pure ar211 (21970000, 0) ⟨274625, 0, 3⟩ (right_spec right_211) valid_ahead (by simp)
  rwa [sol_c] at this
theorem nearest_a : Pure Try.prog 19 [.sl 3 [[.int .i64 5, .int .i64 0, .int .i64 0], [.int .i64 0, .int .i64 3, .int .i64 0], [.int .i64 0, .int .i64 0, .int .i64 (-3)]] .unk, .agg [.int .i64 0, .int .i64 0, .int .i64 0]] (.tup [.agg [.int .i64 0, .int .i64 3, .int .i64 0], .bool true]) := by
  have := nearest_pure [⟨5, 0, 0⟩, ⟨0, 3, 0⟩, ⟨0, 0, -3⟩] j0 (by simp) (by decide) (by decide)
  rwa [show near3 [⟨5, 0, 0⟩, ⟨0, 3, 0⟩, ⟨0, 0, -3⟩] j0 = (⟨0, 3, 0⟩, true) by decide] at this
theorem nearest_b : Pure Try.prog 19 [.sl 3 [] .unk, .agg [.int .i64 0, .int .i64 0, .int .i64 0]] (.tup [.agg [.int .i64 0, .int .i64 0, .int .i64 0], .bool false]) := by
  have := nearest_pure [] j0 (by simp) (by decide) (by decide)
  rwa [show near3 [] j0 = (j0, false) by decide] at this
theorem same_a : Pure Try.prog 13 [.sl 3 (jcs [⟨0, 18, 0⟩]) .unk, .sl 3 [[.int .i64 0, .int .i64 18, .int .i64 0]] .unk] (.bool true) := by
  have := same_pure [⟨0, 18, 0⟩] [⟨0, 18, 0⟩] (by simp) (by simp)
  rwa [decide_eq_true rfl] at this
theorem same_b : Pure Try.prog 13 [.sl 3 (jcs [⟨0, 0, 0⟩]) .unk, .sl 3 [[.int .i64 0, .int .i64 0, .int .i64 0]] .unk] (.bool true) := by
  have := same_pure [⟨0, 0, 0⟩] [⟨0, 0, 0⟩] (by simp) (by simp)
  rwa [decide_eq_true rfl] at this
theorem dist_a : Pure Try.prog 24 [.agg [.int .i64 1, .int .i64 2, .int .i64 3], .agg [.int .i64 0, .int .i64 4, .int .i64 3]] (.int .i64 3) := by
  have := distance_pure ⟨1, 2, 3⟩ ⟨0, 4, 3⟩ (by decide) (by decide)
  rwa [show dist ⟨1, 2, 3⟩ ⟨0, 4, 3⟩ = 3 by decide] at this
set_option maxHeartbeats 4000000 in
theorem head8_pure : Pure Try.prog 10 [] (.bool true) := by
  intro σ ns; refine acalls_of_wpc Try.mixed Try.dr10 Try.func10 rfl (Try.fit10 _ rfl) Try.en10 (fun hσ => ?_); simp [Try.ntmps10]
  refine callT_le plain_pure ?_
  simp
  refine Pure.use_le solve_a ?_
  simp
  refine callT_le plain_pure ?_
  simp
  refine Pure.use_le solve_b ?_
  simp
  refine callT_le plain_pure ?_
  simp
  refine Pure.use_le solve_c ?_
  simp
  refine Pure.use_le nearest_a ?_
  simp
  refine Pure.use_le nearest_b ?_
  simp
  refine Pure.use_le same_a ?_
  simp
  refine Pure.use_le same_b ?_
  have e : aeqElems Try.prog 8 3 1 [.int .i64 0, .int .i64 3, .int .i64 0] [.int .i64 0, .int .i64 3, .int .i64 0] (List.range 3) = some true := by
    have := aeq3 ⟨0, 3, 0⟩ ⟨0, 3, 0⟩
    rwa [decide_eq_true rfl] at this
  simp [e]
  refine Pure.use_le dist_a ?_
  simp
  exact endA_eq (by simp) (by simp)
end Go.Proofs
