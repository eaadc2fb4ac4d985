/- The walk of the fixed examples. -/
import Derived.Test.YtbnmdfappoeipaaS9
set_option linter.unusedVariables false
set_option linter.unusedSimpArgs false
set_option maxRecDepth 100000
namespace Go.Proofs
open Go Go.Abs
attribute [local irreducible] wpc aSeq awAny endA guardK condK CallK callT aPlan onlyL takeL aeffK takeE loopG bodyA thenA inBlockA planK roundG assignG bodyI endI YieldK unrollG
def hx : SS := ⟨3, 1, 60, [⟨2, 0, 0, 0⟩], 2, 2⟩
def hy : SS := ⟨3, 0, 59, [⟨2, 0, 0, 0⟩, ⟨1, 0, 0, 0⟩], 3, 3⟩
def hz : SS := ⟨4, 0, 0, [⟨2, 0, 0, 0⟩, ⟨1, 0, 0, 0⟩], 0, 0⟩
abbrev hav (m c l : Int) (es : List (List AV)) (a b : Int) : AV := .agg [.int .i64 m, .int .i64 c, .int .i64 l, .sl 4 es .unk, .int .i64 a, .int .i64 b]
theorem st_w : Pure Try.prog 19 [hav 1 0 0 [] 0 0, .sl 4 [] .unk, .int .i64 1, .bool true] (.tup [hav 2 0 0 [] 1 1, .int .i64 0]) := by
  have := pStep_pure s0 [] 1 true (by simp) s0_valid
  rw [show stepS s0 [] 1 true = ⟨2, 0, 0, [], 1, 1⟩ by decide, show stepE s0 [] 1 true = 0 by decide] at this
  exact this
theorem st_x : Pure Try.prog 19 [hav 2 0 0 [] 1 1, .sl 4 [[.int .i64 2, .int .i64 0, .int .i64 0, .int .i64 0], [.int .i64 99, .int .i64 0, .int .i64 0, .int .i64 0]] .unk, .int .i64 0, .bool false] (.tup [hav 3 1 60 [[.int .i64 2, .int .i64 0, .int .i64 0, .int .i64 0]] 2 2, .int .i64 0]) := by
  have := pStep_pure ⟨2, 0, 0, [], 1, 1⟩ [⟨2, 0, 0, 0⟩, ⟨99, 0, 0, 0⟩] 0 false (by simp) (by decide)
  rw [show stepS ⟨2, 0, 0, [], 1, 1⟩ [⟨2, 0, 0, 0⟩, ⟨99, 0, 0, 0⟩] 0 false = ⟨3, 1, 60, [⟨2, 0, 0, 0⟩], 2, 2⟩ by decide, show stepE ⟨2, 0, 0, [], 1, 1⟩ [⟨2, 0, 0, 0⟩, ⟨99, 0, 0, 0⟩] 0 false = 0 by decide] at this
  exact this
theorem st_y : Pure Try.prog 19 [hav 3 1 60 [[.int .i64 2, .int .i64 0, .int .i64 0, .int .i64 0]] 2 2, .sl 4 [[.int .i64 1, .int .i64 0, .int .i64 0, .int .i64 0]] .unk, .int .i64 4, .bool false] (.tup [hav 3 0 59 [[.int .i64 2, .int .i64 0, .int .i64 0, .int .i64 0], [.int .i64 1, .int .i64 0, .int .i64 0, .int .i64 0]] 3 3, .int .i64 290]) := by
  have := pStep_pure hx [⟨1, 0, 0, 0⟩] 4 false (by simp) (by decide)
  rw [show stepS hx [⟨1, 0, 0, 0⟩] 4 false = hy by decide, show stepE hx [⟨1, 0, 0, 0⟩] 4 false = 290 by decide] at this
  exact this
theorem st_z : Pure Try.prog 19 [hav 3 0 59 [[.int .i64 2, .int .i64 0, .int .i64 0, .int .i64 0], [.int .i64 1, .int .i64 0, .int .i64 0, .int .i64 0]] 3 3, .sl 4 [] .unk, .int .i64 0, .bool true] (.tup [hav 4 0 0 [[.int .i64 2, .int .i64 0, .int .i64 0, .int .i64 0], [.int .i64 1, .int .i64 0, .int .i64 0, .int .i64 0]] 0 0, .int .i64 0]) := by
  have := pStep_pure hy [] 0 true (by simp) (by decide)
  rw [show stepS hy [] 0 true = hz by decide, show stepE hy [] 0 true = 0 by decide] at this
  exact this
theorem st_u : Pure Try.prog 19 [hav 4 0 0 [[.int .i64 2, .int .i64 0, .int .i64 0, .int .i64 0], [.int .i64 1, .int .i64 0, .int .i64 0, .int .i64 0]] 0 0, .sl 4 [] .unk, .int .i64 4, .bool true] (.tup [hav 1 0 0 [] 1 1, .int .i64 0]) := by
  have := pStep_pure hz [] 4 true (by simp) (by decide)
  rw [show stepS hz [] 4 true = ⟨1, 0, 0, [], 1, 1⟩ by decide, show stepE hz [] 4 true = 0 by decide] at this
  exact this
theorem st_j : Pure Try.prog 19 [hav 4 0 0 [[.int .i64 2, .int .i64 0, .int .i64 0, .int .i64 0], [.int .i64 1, .int .i64 0, .int .i64 0, .int .i64 0]] 0 0, .sl 4 [] .unk, .int .i64 1, .bool true] (.tup [hav 4 0 0 [[.int .i64 2, .int .i64 0, .int .i64 0, .int .i64 0], [.int .i64 1, .int .i64 0, .int .i64 0, .int .i64 0]] 0 0, .int .i64 290]) := by
  have := pStep_pure hz [] 1 true (by simp) (by decide)
  rw [show stepS hz [] 1 true = hz by decide, show stepE hz [] 1 true = 290 by decide] at this
  exact this
theorem st_k : Pure Try.prog 19 [hav 4 0 0 [[.int .i64 2, .int .i64 0, .int .i64 0, .int .i64 0], [.int .i64 1, .int .i64 0, .int .i64 0, .int .i64 0]] 0 0, .sl 4 [] .unk, .int .i64 6, .bool true] (.tup [hav 4 0 0 [[.int .i64 2, .int .i64 0, .int .i64 0, .int .i64 0], [.int .i64 1, .int .i64 0, .int .i64 0, .int .i64 0]] 0 0, .int .i64 1]) := by
  have := pStep_pure hz [] 6 true (by simp) (by decide)
  rw [show stepS hz [] 6 true = hz by decide, show stepE hz [] 6 true = 1 by decide] at this
  exact this
theorem st_v : Pure Try.prog 19 [hav 2 0 0 [] 1 1, .sl 4 [] .unk, .int .i64 2, .bool true] (.tup [hav 3 2 60 [] 2 2, .int .i64 0]) := by
  have := pStep_pure ⟨2, 0, 0, [], 1, 1⟩ [] 2 true (by simp) (by decide)
  rw [show stepS ⟨2, 0, 0, [], 1, 1⟩ [] 2 true = ⟨3, 2, 60, [], 2, 2⟩ by decide, show stepE ⟨2, 0, 0, [], 1, 1⟩ [] 2 true = 0 by decide] at this
  exact this
theorem new_h : Pure Try.prog 18 [] (hav 1 0 0 [] 0 0) := pNew_pure
theorem cmd_x : Pure Try.prog 21 [hav 3 1 60 [[.int .i64 2, .int .i64 0, .int .i64 0, .int .i64 0]] 2 2] (.int .i64 1) := pCmd_pure hx
theorem cmd_y : Pure Try.prog 21 [hav 3 0 59 [[.int .i64 2, .int .i64 0, .int .i64 0, .int .i64 0], [.int .i64 1, .int .i64 0, .int .i64 0, .int .i64 0]] 3 3] (.int .i64 2) := pCmd_pure hy
theorem val_z : Pure Try.prog 12 [hav 4 0 0 [[.int .i64 2, .int .i64 0, .int .i64 0, .int .i64 0], [.int .i64 1, .int .i64 0, .int .i64 0, .int .i64 0]] 0 0] (.bool true) := by
  have := valid_pure hz
  rw [show sval hz = true by decide] at this
  exact this
theorem val_0 : Pure Try.prog 12 [.agg [.int .i64 0, .int .i64 0, .int .i64 0, .sl 4 [] .unk, .int .i64 0, .int .i64 0]] (.bool false) := by
  have := valid_pure ⟨0, 0, 0, [], 0, 0⟩
  rw [show sval ⟨0, 0, 0, [], 0, 0⟩ = false by decide] at this
  exact this
theorem cat_4 : Pure Try.prog 14 [.agg [.int .i64 4, .int .i64 0, .int .i64 0, .int .i64 0]] (.int .i64 2) := pCat_pure ⟨4, 0, 0, 0⟩
set_option maxHeartbeats 8000000 in
theorem head_pure : Pure Try.prog 10 [] (.bool true) := by
  intro σ ns; refine acalls_of_wpc Try.mixed Try.dr10 Try.func10 rfl (Try.fit10 _ rfl) Try.en10 (fun hσ => ?_); simp [Try.ntmps10]
  first | refine Pure.use_le (new_h) ?_ | refine callT_le (new_h) ?_
  simp
  first | refine Pure.use_le (st_w) ?_ | refine callT_le (st_w) ?_
  simp
  first | refine Pure.use_le (st_x) ?_ | refine callT_le (st_x) ?_
  simp
  first | refine Pure.use_le (st_y) ?_ | refine callT_le (st_y) ?_
  simp
  first | refine Pure.use_le (st_z) ?_ | refine callT_le (st_z) ?_
  simp
  first | refine Pure.use_le (st_u) ?_ | refine callT_le (st_u) ?_
  simp
  first | refine Pure.use_le (st_j) ?_ | refine callT_le (st_j) ?_
  simp
  first | refine Pure.use_le (st_k) ?_ | refine callT_le (st_k) ?_
  simp
  first | refine Pure.use_le (st_v) ?_ | refine callT_le (st_v) ?_
  simp
  first | refine Pure.use_le (cmd_x) ?_ | refine callT_le (cmd_x) ?_
  simp
  first | refine Pure.use_le (cmd_y) ?_ | refine callT_le (cmd_y) ?_
  simp [aeq2]
  first | refine Pure.use_le (cat_4) ?_ | refine callT_le (cat_4) ?_
  simp
  first | refine Pure.use_le (val_z) ?_ | refine callT_le (val_z) ?_
  simp
  first | refine Pure.use_le (val_0) ?_ | refine callT_le (val_0) ?_
  simp
  exact endA_eq (by simp) (by simp)
end Go.Proofs
