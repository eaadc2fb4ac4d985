/- Expansion: the walk of the law's fixed examples. -/
import Derived.Test.YtnanajdckbfamaaGreatDoorY2
set_option linter.unusedVariables false
set_option linter.unusedSimpArgs false
set_option maxRecDepth 100000
namespace Go.Proofs
open Go Go.Abs
attribute [local irreducible] wpc aSeq awAny endA guardK condK CallK callT aPlan onlyL takeL aeffK takeE loopG bodyA thenA inBlockA planK roundG assignG bodyI endI YieldK unrollG endP
theorem aeqJ8 (x y : J3) : aeqElems Tryz.prog 8 3 1 [.int .i64 x.a, .int .i64 x.b, .int .i64 x.c] [.int .i64 y.a, .int .i64 y.b, .int .i64 y.c] (List.range 3) = some (decide (x = y)) := by
  obtain ⟨a, b, c⟩ := x; obtain ⟨d, e, f⟩ := y
  simp [aeqElems, apart, aeq, show List.range 3 = [0, 1, 2] from rfl]
  rw [Bool.eq_iff_iff]; simp
set_option maxHeartbeats 4000000 in
theorem head13_pure : PureG 9 [] (.bool true) := by
  have hpre : preS (first small13) small13 := ⟨small13_st, small13_right⟩
  have r1 := steps_pureG small13 prog1 (first small13) prog1_ok (by decide) hpre
  have r2 := steps_pureG small13 prog2 (first small13) prog2_ok (by decide) hpre
  have r3 := steps_pureG small13 prog3 (first small13) prog3_ok (by decide) hpre
  rw [prog1_run.1, prog1_run.2] at r1
  rw [prog2_run] at r2
  rw [prog3_run] at r3
  have wk := small13_right.wok small13_st
  have a1 := apply_pureG small13 (first small13) go13 wk
  have a2 := apply_pureG small13 v13 take13 (small13_right.wok v13_ok)
  have a3 := apply_pureG small13 (first small13) take13 wk
  have a4 := apply_pureG small13 (first small13) bad13 wk
  rw [do1] at a1
  rw [do2] at a2
  have e3 := do3
  have e4 := do4
  generalize near13 = q at *
  generalize (playT small13 prog2 (first small13) []).1.2 = l2 at *
  generalize (playT small13 prog3 (first small13) []).1.2 = l3 at *
  generalize refR (first small13) (doE take13 (first small13) small13) = x3 at *
  generalize refR (first small13) (doE bad13 (first small13) small13) = x4 at *
  obtain ⟨y3, k3⟩ := x3
  obtain ⟨y4, k4⟩ := x4
  dsimp only at e3 e4
  subst e3 e4
  refine pureG_val fun σ ns gl go _ hgo hg => ?_
  refine acalls_of_wpc Tryz.mixed Tryz.dr9 Tryz.func9 rfl (Tryz.fit9 _ rfl) Tryz.en9 (fun hσ => ?_); simp [Tryz.ntmps9]
  have hgg := ne_own hσ hg
  have hg2 := own_ne hσ hg
  first | refine Pure.use_le (Small13_pure) ?_ | refine callT_le (Small13_pure) ?_
  simp
  first | refine Pure.use_le (First9_pure small13 (by decide)) ?_ | refine callT_le (First9_pure small13 (by decide)) ?_
  simp
  refine (r1.weaken ?_).use (gl := gl) hgo (by simp [hg, hgg, hg2]) ?_
  · simp [smcs, prog1, sbcs, Sb.cells, sCap, sNut, sMid, j0']
    (repeat' first | exact AVsle.nil | refine AVsle.cons (AVle.any _) ?_ | refine AVsle.cons (AVle.refl _) ?_ | refine AVsle.cons AVLe.le ?_)
  simp
  refine (r2.weaken ?_).use (gl := gl) hgo (by simp [hg, hgg, hg2]) ?_
  · simp [smcs, prog2, sbcs, Sb.cells, sCap, sNut, sMid, j0']
    (repeat' first | exact AVsle.nil | refine AVsle.cons (AVle.any _) ?_ | refine AVsle.cons (AVle.refl _) ?_ | refine AVsle.cons AVLe.le ?_)
  simp
  refine (r3.weaken ?_).use (gl := gl) hgo (by simp [hg, hgg, hg2]) ?_
  · simp [smcs, prog3, sbcs, Sb.cells, sCap, sNut, sMid, j0']
    (repeat' first | exact AVsle.nil | refine AVsle.cons (AVle.any _) ?_ | refine AVsle.cons (AVle.refl _) ?_ | refine AVsle.cons AVLe.le ?_)
  simp
  refine (a1.weaken ?_).use (gl := gl) hgo (by simp [hg, hgg, hg2]) ?_
  · simp [go13, take13, bad13, j0', Sp.av, Sp.cells]
    (repeat' first | exact AVsle.nil | refine AVsle.cons (AVle.any _) ?_ | refine AVsle.cons (AVle.refl _) ?_ | refine AVsle.cons AVLe.le ?_)
  simp
  refine (a2.weaken ?_).use (gl := gl) hgo (by simp [hg, hgg, hg2]) ?_
  · simp [go13, take13, bad13, j0', Sp.av, Sp.cells]
    (repeat' first | exact AVsle.nil | refine AVsle.cons (AVle.any _) ?_ | refine AVsle.cons (AVle.refl _) ?_ | refine AVsle.cons AVLe.le ?_)
  simp
  refine (a3.weaken ?_).use (gl := gl) hgo (by simp [hg, hgg, hg2]) ?_
  · simp [go13, take13, bad13, j0', Sp.av, Sp.cells]
    (repeat' first | exact AVsle.nil | refine AVsle.cons (AVle.any _) ?_ | refine AVsle.cons (AVle.refl _) ?_ | refine AVsle.cons AVLe.le ?_)
  simp
  refine (a4.weaken ?_).use (gl := gl) hgo (by simp [hg, hgg, hg2]) ?_
  · simp [go13, take13, bad13, j0', Sp.av, Sp.cells]
    (repeat' first | exact AVsle.nil | refine AVsle.cons (AVle.any _) ?_ | refine AVsle.cons (AVle.refl _) ?_ | refine AVsle.cons AVLe.le ?_)
  simp
  have hu : ((u13.wher.length : Int) != 2) = false := rfl
  have s1 : (spcs [goStep 0 q, ⟨3, 0, 0, 0, 0, j0', j0'⟩, ⟨5, 0, 0, 0, 7, j0', j0'⟩])[0]? = some (goStep 0 q).cells := rfl
  have s2 : (spcs [goStep 0 q, ⟨3, 0, 0, 0, 0, j0', j0'⟩, ⟨5, 0, 0, 0, 7, j0', j0'⟩])[1]? = some (⟨3, 0, 0, 0, 0, j0', j0'⟩ : Sp).cells := rfl
  have s3 : (spcs [goStep 0 q, ⟨3, 0, 0, 0, 0, j0', j0'⟩, ⟨5, 0, 0, 0, 7, j0', j0'⟩])[2]? = some (⟨5, 0, 0, 0, 7, j0', j0'⟩ : Sp).cells := rfl
  have s4 : (goStep 0 q).kind = 1 := rfl
  have s5 : (ics u13.wher)[0]? = some [.int .i64 (-1)] := rfl
  generalize spcs [goStep 0 q, ⟨3, 0, 0, 0, 0, j0', j0'⟩, ⟨5, 0, 0, 0, 7, j0', j0'⟩] = es at *
  have su : ics u13.wher = [[.int .i64 (-1)], [.int .i64 2]] := rfl
  simp [hu]
  have z0 : aeqElems Tryz.prog 7 25 3 [.int .i64 0, .int .i64 0, .int .i64 0, .int .i64 0, .int .i64 0, .int .i64 0] [.int .i64 0, .int .i64 0, .int .i64 0, .int .i64 0, .int .i64 0, .int .i64 0] (List.range 2) = some true := aeqQ7 j0' j0' j0' j0'
  have z1 : aeqElems Tryz.prog 8 3 1 [.int .i64 v13.q0.a, .int .i64 v13.q0.b, .int .i64 v13.q0.c] [.int .i64 9, .int .i64 (-9), .int .i64 9] (List.range 3) = some true := aeqJ8 v13.q0 ⟨9, -9, 9⟩
  have z2 : aeqElems Tryz.prog 8 3 1 [.int .i64 u13.l0, .int .i64 u13.l1] [.int .i64 0, .int .i64 (-1)] (List.range 2) = some true := aeqI2 u13.l0 u13.l1 0 (-1)
  have q1 : sameW (first small13) (first small13) = true := by decide
  have q2 : sameW (first small13) v13 = false := by decide
  simp [s1, s2, s3, s4, s5, z0, z1, z2, su]
  first | refine Pure.use_le (EqualStates_pure (first small13) (first small13) (by decide)) ?_ | refine callT_le (EqualStates_pure (first small13) (first small13) (by decide)) ?_
  simp [q1]
  first | refine Pure.use_le (EqualStates_pure (first small13) v13 (by decide)) ?_ | refine callT_le (EqualStates_pure (first small13) v13 (by decide)) ?_
  simp [q2]
  refine endA_eq rfl ?_
  simp
end Go.Proofs
