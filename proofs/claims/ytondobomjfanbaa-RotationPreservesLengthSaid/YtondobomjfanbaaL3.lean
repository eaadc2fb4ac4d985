/- The walk of RotationMatchesReference: it returns true. -/
import Derived.Test.YtondobomjfanbaaW6
set_option linter.unusedVariables false
set_option linter.unusedSimpArgs false
set_option maxRecDepth 100000
namespace Go.Proofs
open Go Go.Abs
attribute [local irreducible] wpc aSeq awAny endA guardK condK CallK callT aPlan onlyL takeL aeffK takeE loopG bodyA thenA inBlockA planK
theorem pointOf_bound (x y : Int) : -439400000 ≤ (pointOf x y).1 ∧ (pointOf x y).1 ≤ 439400000 ∧ -439400000 ≤ (pointOf x y).2 ∧ (pointOf x y).2 ≤ 439400000 := by
  have h1 := Int.tmod_lt_of_pos x (show (0 : Int) < 439400001 by omega)
  have h2 := Int.lt_tmod_of_pos x (show (0 : Int) < 439400001 by omega)
  have h3 := Int.tmod_lt_of_pos y (show (0 : Int) < 439400001 by omega)
  have h4 := Int.lt_tmod_of_pos y (show (0 : Int) < 439400001 by omega)
  simp only [pointOf]; omega
set_option maxHeartbeats 4000000 in
theorem law3 (q : Int) (d : Dr) (l : List Int) (n x y : Int) (hn : -128 ≤ n ∧ n ≤ 127) (hx : -2147483648 ≤ x ∧ x ≤ 2147483647) (hy : -2147483648 ≤ y ∧ y ≤ 2147483647) :
    Pure Try.prog 3 [.int .i64 q, d.av, .sl 1 (ints l) .unk, .int .i8 n, .int .i32 x, .int .i32 y] (.bool true) := by
  have hb := pointOf_bound x y
  intro σ ns; refine acalls_of_wpc Try.mixed Try.dr3 Try.func3 rfl (Try.fit3 _ rfl) Try.en3 ?_; simp [Try.ntmps3]
  refine Pure.use_le head_pure ?_
  simp
  refine condK_cases (fun h => ?_) (fun h => ?_)
  · simp
    exact endA_pure (by simp)
  simp
  first | refine Pure.use_le (Dir_pure l) ?_ | refine callT_le (Dir_pure l) ?_
  have hv := dirOf_valid l
  generalize dirOf l = d2 at hv
  simp
  first | refine Pure.use_le (Point_pure x y hx hy) ?_ | refine callT_le (Point_pure x y hx hy) ?_
  generalize pointOf x y = p at hb
  simp
  first | refine Pure.use_le (CosSin_pure q) ?_ | refine callT_le (CosSin_pure q) ?_
  simp
  first | refine Pure.use_le (Of_pure q) ?_ | refine callT_le (Of_pure q) ?_
  simp
  first | refine Pure.use_le (RotatePoint_pure p q (by omega)) ?_ | refine callT_le (RotatePoint_pure p q (by omega)) ?_
  simp
  first | refine Pure.use_le (Rot_pure p q (by omega)) ?_ | refine callT_le (Rot_pure p q (by omega)) ?_
  simp
  first | refine Pure.use_le (Inverse_pure q) ?_ | refine callT_le (Inverse_pure q) ?_
  simp
  first | refine Pure.use_le (Opp_pure q) ?_ | refine callT_le (Opp_pure q) ?_
  simp
  first | refine Pure.use_le (ValidDirection_pure d) ?_ | refine callT_le (ValidDirection_pure d) ?_
  simp
  first | refine Pure.use_le (Right_pure d) ?_ | refine callT_le (Right_pure d) ?_
  simp
  first | refine Pure.use_le (Compose_pure d q) ?_ | refine callT_le (Compose_pure d q) ?_
  simp
  first | refine Pure.use_le (Add_pure d q) ?_ | refine callT_le (Add_pure d q) ?_
  simp
  first | refine Pure.use_le (Compose_pure d2 q) ?_ | refine callT_le (Compose_pure d2 q) ?_
  simp
  first | refine Pure.use_le (Add_pure d2 q) ?_ | refine callT_le (Add_pure d2 q) ?_
  simp
  have hw : IntKind.wrap .i64 n = n := wrap64 (by omega) (by omega)
  simp [hw]
  first | refine Pure.use_le (Offset_pure d2 n hv (by omega)) ?_ | refine callT_le (Offset_pure d2 n hv (by omega)) ?_
  simp [hw]
  first | refine Pure.use_le (Fine_pure d2 n hv (by omega)) ?_ | refine callT_le (Fine_pure d2 n hv (by omega)) ?_
  simp
  first | refine Pure.use_le (RotateQuarter_pure p (by omega)) ?_ | refine callT_le (RotateQuarter_pure p (by omega)) ?_
  simp
  first | refine Pure.use_le (Left_pure p (by omega)) ?_ | refine callT_le (Left_pure p (by omega)) ?_
  simp
  exact endA_pure (by simp)
end Go.Proofs
