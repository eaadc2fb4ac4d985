/- The walk of InvkinAtMostTwo: it returns true. -/
import Derived.Test.YtajdhkchgidjmaaM3
import Derived.Test.YtajdhkchgidjmaaP3
set_option linter.unusedVariables false
set_option linter.unusedSimpArgs false
set_option maxRecDepth 100000
namespace Go.Proofs
open Go Go.Abs
attribute [local irreducible] wpc aSeq awAny endA guardK condK CallK callT aPlan onlyL takeL aeffK takeE loopG bodyA thenA inBlockA planK roundG assignG bodyI endI YieldK unrollG
theorem pw_get {l : List J3} (h : l.Pairwise fun p q => p.a < q.a) {i : Nat} (hi : i < l.length) (h1 : 1 ≤ i) : (l.getD (i - 1) j0).a < (l.getD i j0).a := by
  have := List.pairwise_iff_getElem.1 h (i - 1) i (by omega) hi (by omega)
  simpa [List.getD, hi, show i - 1 < l.length by omega] using this
set_option maxHeartbeats 8000000 in
theorem law4 (a : Ar) (p : V2) (e : Dr) (r : J3) (here : Bool) (hr : rawOk r) : Pure Try.prog 4 [a.av, p.av, e.av, rawav r, .bool here] (.bool true) := by
  intro σ ns; refine acalls_of_wpc Try.mixed Try.dr4 Try.func4 rfl (Try.fit4 _ rfl) Try.en4 (fun hσ => ?_); simp [Try.ntmps4]
  first | refine Pure.use_le (head8_pure) ?_ | refine callT_le (head8_pure) ?_
  simp
  first | refine Pure.use_le (right7_pure a) ?_ | refine callT_le (right7_pure a) ?_
  simp
  refine condK_cases (fun hR => ?_) (fun hR => ?_)
  · simp
    exact endA_eq (by simp) (by simp)
  simp at hR
  have hP := right_spec hR
  simp
  first | refine Pure.use_le (joint_pure a r hP hr) ?_ | refine callT_le (joint_pure a r hP hr) ?_
  simp
  first | refine Pure.use_le (tip_pure a (jointOf a r) hP) ?_ | refine callT_le (tip_pure a (jointOf a r) hP) ?_
  simp
  refine condK_cases (fun hh => ?_) (fun hh => ?_)
  · simp
    first | refine Pure.use_le (may8_pure a p e) ?_ | refine callT_le (may8_pure a p e) ?_
    simp
    refine condK_cases (fun hM => ?_) (fun hM => ?_)
    · simp
      exact endA_eq (by simp) (by simp)
    simp [mayArgs] at hM
    have hv : valid e = true := hM.1.2
    have hb := may_spec hM.1.1.2
    simp
    have hl := hP.lens
    have hrun := off40 hv (n := a.lens.c) (by omega)
    have h36 := all_36 hP p e
    have h2 := all_two hP p e
    have hfst := all_firsts hP p e
    first | refine Pure.use_le (solve_all a p e hP hv hb) ?_ | refine callT_le (solve_all a p e hP hv hb) ?_
    simp
    first | refine Pure.use_le (Fine_pure e a.lens.c hv (by omega)) ?_ | refine callT_le (Fine_pure e a.lens.c hv (by omega)) ?_
    simp
    simp (disch := omega) [wrap64]
    generalize all a p e = l at *
    refine wpc_loop0 (fun i : Nat => [(10, .any), (19, .any), (64, .any), (65, .any), (66, .any), (67, .any), (68, .any), (69, .any), (70, .any), (71, .any), (72, .any), (73, .any), (74, .any), (75, .any), (76, .any), (77, .any), (78, .any), (79, .any), (80, .any), (81, .any),  (19, .int .i64 i)]) (fun i => l.length - i) (fun i => 1 ≤ i ∧ (i ≤ l.length ∨ i = 1)) 1 (by simp) ?_ ?_
    · simp
      (repeat' first | exact AVsle.nil | refine AVsle.cons (AVle.any _) ?_ | refine AVsle.cons (AVle.refl _) ?_ | refine AVsle.cons AVLe.le ?_)
    rintro i k ⟨hi1, hi2⟩
    simp
    refine condK_cases (fun h => ?_) (fun h => ?_) <;> simp at h
    · have g0 := getD_some h
      have g1 := getD_some (show i - 1 < l.length by omega)
      have hlt := pw_get hfst h hi1
      generalize l.getD i j0 = x at *
      generalize l.getD (i - 1) j0 = y at *
      have w0 : IntKind.wrap .i64 ((i : Int) - 1) = ((i - 1 : Nat) : Int) := by rw [wrap64 (by omega) (by omega)]; omega
      have w1 : IntKind.wrap .i64 ((i : Int) + 1) = ((i + 1 : Nat) : Int) := wrap64 (by omega) (by omega)
      simp [jcs_get g0, w0, jcs_get g1, show ¬ x.a ≤ y.a by omega, w1]
      refine loopG_normal (i + 1) (by omega) (by omega) ?_ (StWk.weak (.refl _)) rfl rfl
      simp
      (repeat' first | exact AVsle.nil | refine AVsle.cons (AVle.any _) ?_ | refine AVsle.cons (AVle.refl _) ?_ | refine AVsle.cons AVLe.le ?_)
    · simp [show (l.length : Int) ≤ 36 by omega]
      refine guardK_cases (fun hg => ?_) (fun hg => ?_)
      · simp [hg]
        exact endA_eq (by simp) (by simp)
      · have h3 : l.length ≤ 2 := h2 fun e' => by
          have e1 := congrArg Prod.fst e'
          have e2 := congrArg Prod.snd e'
          simp only [V2.sub] at e1 e2
          simp [e1, e2] at hg
        simp [hg]
        exact endA_eq (by simp; omega) (by simp)
  · simp
    have hv := (dC_valid (jointOf a r)).1
    have hb := tip_ok hP (jointOf a r)
    generalize pC a (jointOf a r) = p at *
    generalize dC (jointOf a r) = e at *
    have hl := hP.lens
    have hrun := off40 hv (n := a.lens.c) (by omega)
    have h36 := all_36 hP p e
    have h2 := all_two hP p e
    have hfst := all_firsts hP p e
    first | refine Pure.use_le (solve_all a p e hP hv hb) ?_ | refine callT_le (solve_all a p e hP hv hb) ?_
    simp
    first | refine Pure.use_le (Fine_pure e a.lens.c hv (by omega)) ?_ | refine callT_le (Fine_pure e a.lens.c hv (by omega)) ?_
    simp
    simp (disch := omega) [wrap64]
    generalize all a p e = l at *
    refine wpc_loop0 (fun i : Nat => [(10, .any), (19, .any), (64, .any), (65, .any), (66, .any), (67, .any), (68, .any), (69, .any), (70, .any), (71, .any), (72, .any), (73, .any), (74, .any), (75, .any), (76, .any), (77, .any), (78, .any), (79, .any), (80, .any), (81, .any),  (19, .int .i64 i)]) (fun i => l.length - i) (fun i => 1 ≤ i ∧ (i ≤ l.length ∨ i = 1)) 1 (by simp) ?_ ?_
    · simp
      (repeat' first | exact AVsle.nil | refine AVsle.cons (AVle.any _) ?_ | refine AVsle.cons (AVle.refl _) ?_ | refine AVsle.cons AVLe.le ?_)
    rintro i k ⟨hi1, hi2⟩
    simp
    refine condK_cases (fun h => ?_) (fun h => ?_) <;> simp at h
    · have g0 := getD_some h
      have g1 := getD_some (show i - 1 < l.length by omega)
      have hlt := pw_get hfst h hi1
      generalize l.getD i j0 = x at *
      generalize l.getD (i - 1) j0 = y at *
      have w0 : IntKind.wrap .i64 ((i : Int) - 1) = ((i - 1 : Nat) : Int) := by rw [wrap64 (by omega) (by omega)]; omega
      have w1 : IntKind.wrap .i64 ((i : Int) + 1) = ((i + 1 : Nat) : Int) := wrap64 (by omega) (by omega)
      simp [jcs_get g0, w0, jcs_get g1, show ¬ x.a ≤ y.a by omega, w1]
      refine loopG_normal (i + 1) (by omega) (by omega) ?_ (StWk.weak (.refl _)) rfl rfl
      simp
      (repeat' first | exact AVsle.nil | refine AVsle.cons (AVle.any _) ?_ | refine AVsle.cons (AVle.refl _) ?_ | refine AVsle.cons AVLe.le ?_)
    · simp [show (l.length : Int) ≤ 36 by omega]
      refine guardK_cases (fun hg => ?_) (fun hg => ?_)
      · simp [hg]
        exact endA_eq (by simp) (by simp)
      · have h3 : l.length ≤ 2 := h2 fun e' => by
          have e1 := congrArg Prod.fst e'
          have e2 := congrArg Prod.snd e'
          simp only [V2.sub] at e1 e2
          simp [e1, e2] at hg
        simp [hg]
        exact endA_eq (by simp; omega) (by simp)
end Go.Proofs
