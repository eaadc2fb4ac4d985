/- The walk of SupervisorMatchesReference: it returns true. -/
import Derived.Test.YtbnmdfappoeipaaM4
set_option linter.unusedVariables false
set_option linter.unusedSimpArgs false
set_option maxRecDepth 100000
namespace Go.Proofs
open Go Go.Abs
attribute [local irreducible] wpc aSeq awAny endA guardK condK CallK callT aPlan onlyL takeL aeffK takeE loopG bodyA thenA inBlockA planK roundG assignG bodyI endI YieldK unrollG
theorem same_new : Pure Try.prog 17 [s0.av, s0.av] (.bool true) := by
  have := same_pure s0 s0 (by decide) (by decide)
  rwa [decide_eq_true rfl] at this
theorem same_refl (s : SS) (h : s.ca.length ≤ 1000) : Pure Try.prog 17 [s.av, s.av] (.bool true) := by
  have := same_pure s s h h
  rwa [decide_eq_true rfl] at this
set_option maxHeartbeats 8000000 in
theorem law3 (raw : SS) (l : List Tk) (b : Vi) : Pure Try.prog 3 [raw.av, .sl 3 (tcs l) .unk, b.av] (.bool true) := by
  intro σ ns; refine acalls_of_wpc Try.mixed Try.dr3 Try.func3 rfl (Try.fit3 _ rfl) Try.en3 (fun hσ => ?_); simp [Try.ntmps3]
  first | refine Pure.use_le (head_pure) ?_ | refine callT_le (head_pure) ?_
  simp
  first | refine Pure.use_le (great_pure l) ?_ | refine callT_le (great_pure l) ?_
  simp
  rcases Bool.eq_false_or_eq_true (great l) with hg | hg
  · simp [hg]
    first | refine Pure.use_le (great_pure l) ?_ | refine callT_le (great_pure l) ?_
    simp [hg]
    exact endA_eq (by simp) (by simp)
  by_cases hc : (100 : Int) < raw.ca.length
  · simp [hg, hc]
    first | refine Pure.use_le (great_pure l) ?_ | refine callT_le (great_pure l) ?_
    simp [hg, hc]
    exact endA_eq (by simp) (by simp)
  have hth := great_false hg
  simp [hg, hc]
  first | refine Pure.use_le (valid_pure raw) ?_ | refine callT_le (valid_pure raw) ?_
  simp
  first | refine Pure.use_le (right_pure raw) ?_ | refine callT_le (right_pure raw) ?_
  simp
  first | refine Pure.use_le (pCat_pure b) ?_ | refine callT_le (pCat_pure b) ?_
  simp
  first | refine Pure.use_le (rCat_pure b) ?_ | refine callT_le (rCat_pure b) ?_
  simp
  first | refine Pure.use_le (rNew_pure) ?_ | refine callT_le (rNew_pure) ?_
  simp
  first | refine Pure.use_le (right_pure raw) ?_ | refine callT_le (right_pure raw) ?_
  simp
  rcases Bool.eq_false_or_eq_true (sval raw) with hr | hr
  · simp [hr]
    first | refine Pure.use_le (pNew_pure) ?_ | refine callT_le (pNew_pure) ?_
    simp
    first | refine Pure.use_le (rNew_pure) ?_ | refine callT_le (rNew_pure) ?_
    simp
    first | refine Pure.use_le (same_new) ?_ | refine callT_le (same_new) ?_
    simp
    refine wpc_loopV (fun i : Nat => [(6, .any), (9, .any), (10, .any), (11, .any), (12, .any), (13, .any), (56, .any), (57, .any), (58, .any), (59, .any), (60, .any), (61, .any), (62, .any), (63, .any), (64, .any), (65, .any), (66, .any), (67, .any), (68, .any), (69, .any), (70, .any), (71, .any), (72, .any), (73, .any), (74, .any), (75, .any), (76, .any), (77, .any), (78, .any), (79, .any), (80, .any), (81, .any), (82, .any), (83, .any), (84, .any), (85, .any), (86, .any), (87, .any), (88, .any), (89, .any), (90, .any), (91, .any), (92, .any), (93, .any), (94, .any), (95, .any), (96, .any), (97, .any), (98, .any), (99, .any), (100, .any), (101, .any), (102, .any), (103, .any), (104, .any), (105, .any), (106, .any), (107, .any), (108, .any), (109, .any), (110, .any), (111, .any), (112, .any), (113, .any), (114, .any), (115, .any), (116, .any), (117, .any), (118, .any),  (9, .int .i64 i)]) ((ns.sub 3).sub 1) (fun i => (after raw l i).cells) (fun i => l.length - i) (fun i => i ≤ l.length) 0 (by simp) ?_ (by simp only [Store.up_same]; rfl) ?_
    · simp
      (repeat' first | exact AVsle.nil | refine AVsle.cons (AVle.any _) ?_ | refine AVsle.cons (AVle.refl _) ?_ | refine AVsle.cons AVLe.le ?_)
    rintro i k hi hfr
    simp
    refine condK_cases (fun h => ?_) (fun h => ?_) <;> simp at h
    · have g := tget h
      have hs := after_succ (s := raw) h
      have hm := hth.2 _ (tmem h)
      have hvi := after_valid hr l i
      have hvi1 := (sval_iff.1 (after_valid hr l (i + 1))).1.ca
      generalize l.getD i tk0 = x at g hs hm
      have w1 : IntKind.wrap .i64 ((i : Int) + 1) = ((i + 1 : Nat) : Int) := wrap64 (by omega) (by omega)
      have hp := pStep_pure (after raw l i) x.l x.ask x.rest (by omega) hvi
      have hq := rStep_pure (after raw l i) x.l x.ask x.rest (by omega) (sval_iff.1 hvi).1
      rw [← hs] at hp hq
      simp [tcs_get g]
      first | refine Pure.use_le (hp) ?_ | refine callT_le (hp) ?_
      simp [tcs_get g]
      first | refine Pure.use_le (hq) ?_ | refine callT_le (hq) ?_
      simp
      first | refine Pure.use_le (same_refl (after raw l (i + 1)) (by omega)) ?_ | refine callT_le (same_refl (after raw l (i + 1)) (by omega)) ?_
      simp
      first | refine Pure.use_le (pCmd_pure (after raw l i)) ?_ | refine callT_le (pCmd_pure (after raw l i)) ?_
      simp
      first | refine Pure.use_le (rCmd_pure (after raw l i)) ?_ | refine callT_le (rCmd_pure (after raw l i)) ?_
      simp [w1]
      refine loopG_normal (i + 1) (by omega) (by omega) ?_ ?_ rfl rfl
      · simp
        (repeat' first | exact AVsle.nil | refine AVsle.cons (AVle.any _) ?_ | refine AVsle.cons (AVle.refl _) ?_ | refine AVsle.cons AVLe.le ?_)
      · ((try (dsimp only)); refine StWk.weak (StWk.turn (fun x hx => by first | exact hfr x hx | (have h := hfr x hx; simp only [Store.up_get] at h ⊢; split at h; (cases h); (exact h))) ?_ (fun m m1 m2 => ?_)); (rw [Store.up_same]); repeat' first | (with_reducible rfl) | rw [Store.up_get, if_neg m2] | rw [up_other (by simp [Nm.under]) m1])
    · simp
      exact endA_eq (by simp) (by simp)
  · simp [hr]
    first | refine Pure.use_le (pNew_pure) ?_ | refine callT_le (pNew_pure) ?_
    simp
    first | refine Pure.use_le (rNew_pure) ?_ | refine callT_le (rNew_pure) ?_
    simp
    first | refine Pure.use_le (same_new) ?_ | refine callT_le (same_new) ?_
    simp
    refine wpc_loopV (fun i : Nat => [(6, .any), (9, .any), (10, .any), (11, .any), (12, .any), (13, .any), (56, .any), (57, .any), (58, .any), (59, .any), (60, .any), (61, .any), (62, .any), (63, .any), (64, .any), (65, .any), (66, .any), (67, .any), (68, .any), (69, .any), (70, .any), (71, .any), (72, .any), (73, .any), (74, .any), (75, .any), (76, .any), (77, .any), (78, .any), (79, .any), (80, .any), (81, .any), (82, .any), (83, .any), (84, .any), (85, .any), (86, .any), (87, .any), (88, .any), (89, .any), (90, .any), (91, .any), (92, .any), (93, .any), (94, .any), (95, .any), (96, .any), (97, .any), (98, .any), (99, .any), (100, .any), (101, .any), (102, .any), (103, .any), (104, .any), (105, .any), (106, .any), (107, .any), (108, .any), (109, .any), (110, .any), (111, .any), (112, .any), (113, .any), (114, .any), (115, .any), (116, .any), (117, .any), (118, .any),  (9, .int .i64 i)]) ((ns.sub 3).sub 1) (fun i => (after s0 l i).cells) (fun i => l.length - i) (fun i => i ≤ l.length) 0 (by simp) ?_ (by simp only [Store.up_same]; rfl) ?_
    · simp
      (repeat' first | exact AVsle.nil | refine AVsle.cons (AVle.any _) ?_ | refine AVsle.cons (AVle.refl _) ?_ | refine AVsle.cons AVLe.le ?_)
    rintro i k hi hfr
    simp
    refine condK_cases (fun h => ?_) (fun h => ?_) <;> simp at h
    · have g := tget h
      have hs := after_succ (s := s0) h
      have hm := hth.2 _ (tmem h)
      have hvi := after_valid s0_valid l i
      have hvi1 := (sval_iff.1 (after_valid s0_valid l (i + 1))).1.ca
      generalize l.getD i tk0 = x at g hs hm
      have w1 : IntKind.wrap .i64 ((i : Int) + 1) = ((i + 1 : Nat) : Int) := wrap64 (by omega) (by omega)
      have hp := pStep_pure (after s0 l i) x.l x.ask x.rest (by omega) hvi
      have hq := rStep_pure (after s0 l i) x.l x.ask x.rest (by omega) (sval_iff.1 hvi).1
      rw [← hs] at hp hq
      simp [tcs_get g]
      first | refine Pure.use_le (hp) ?_ | refine callT_le (hp) ?_
      simp [tcs_get g]
      first | refine Pure.use_le (hq) ?_ | refine callT_le (hq) ?_
      simp
      first | refine Pure.use_le (same_refl (after s0 l (i + 1)) (by omega)) ?_ | refine callT_le (same_refl (after s0 l (i + 1)) (by omega)) ?_
      simp
      first | refine Pure.use_le (pCmd_pure (after s0 l i)) ?_ | refine callT_le (pCmd_pure (after s0 l i)) ?_
      simp
      first | refine Pure.use_le (rCmd_pure (after s0 l i)) ?_ | refine callT_le (rCmd_pure (after s0 l i)) ?_
      simp [w1]
      refine loopG_normal (i + 1) (by omega) (by omega) ?_ ?_ rfl rfl
      · simp
        (repeat' first | exact AVsle.nil | refine AVsle.cons (AVle.any _) ?_ | refine AVsle.cons (AVle.refl _) ?_ | refine AVsle.cons AVLe.le ?_)
      · ((try (dsimp only)); refine StWk.weak (StWk.turn (fun x hx => by first | exact hfr x hx | (have h := hfr x hx; simp only [Store.up_get] at h ⊢; split at h; (cases h); (exact h))) ?_ (fun m m1 m2 => ?_)); (rw [Store.up_same]); repeat' first | (with_reducible rfl) | rw [Store.up_get, if_neg m2] | rw [up_other (by simp [Nm.under]) m1])
    · simp
      exact endA_eq (by simp) (by simp)
end Go.Proofs
