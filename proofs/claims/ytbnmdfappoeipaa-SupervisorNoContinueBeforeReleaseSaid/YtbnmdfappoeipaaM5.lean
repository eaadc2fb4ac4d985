/- The walk of SupervisorNoContinueBeforeRelease: it returns true. -/
import Derived.Test.YtbnmdfappoeipaaM4
set_option linter.unusedVariables false
set_option linter.unusedSimpArgs false
set_option maxRecDepth 100000
namespace Go.Proofs
open Go Go.Abs
attribute [local irreducible] wpc aSeq awAny endA guardK condK CallK callT aPlan onlyL takeL aeffK takeE loopG bodyA thenA inBlockA planK roundG assignG bodyI endI YieldK unrollG
set_option maxHeartbeats 4000000 in
theorem law5 (l : List Tk) (t : Tk) (th : List Tk) : Pure Try.prog 5 [.sl 3 (tcs l) .unk, t.av, .sl 3 (tcs th) .unk] (.bool true) := by
  intro σ ns; refine acalls_of_wpc Try.mixed Try.dr5 Try.func5 rfl (Try.fit5 _ rfl) Try.en5 (fun hσ => ?_); simp [Try.ntmps5]
  first | refine Pure.use_le (head_pure) ?_ | refine callT_le (head_pure) ?_
  simp
  first | refine Pure.use_le (great_pure l) ?_ | refine callT_le (great_pure l) ?_
  simp
  rcases Bool.eq_false_or_eq_true (great l) with hg | hg
  · simp [hg]
    exact endA_eq (by simp) (by simp)
  simp [hg]
  first | refine Pure.use_le (great_pure th) ?_ | refine callT_le (great_pure th) ?_
  simp
  rcases Bool.eq_false_or_eq_true (great th) with hg2 | hg2
  · simp [hg2]
    exact endA_eq (by simp) (by simp)
  by_cases ht : (40 : Int) < t.l.length
  · simp [hg2, ht]
    exact endA_eq (by simp) (by simp)
  simp [hg2, ht]
  first | refine Pure.use_le (asks_pure t.l (by omega)) ?_ | refine callT_le (asks_pure t.l (by omega)) ?_
  simp
  by_cases hc : vmin t.l = 3
  · simp [hc]
    exact endA_eq (by simp) (by simp)
  have hv := behind_ok (l := l)
  have hv2 := stepS_valid t.l t.ask t.rest hv
  have hcmd0 := stop_cmd hv hc t.ask t.rest
  have hth := great_false hg2
  simp [ne_beq hc]
  first | refine Pure.use_le (behind_pure l hg) ?_ | refine callT_le (behind_pure l hg) ?_
  simp
  first | refine Pure.use_le (pStep_pure (after s0 l l.length) t.l t.ask t.rest (by omega) hv) ?_ | refine callT_le (pStep_pure (after s0 l l.length) t.l t.ask t.rest (by omega) hv) ?_
  generalize stepS (after s0 l l.length) t.l t.ask t.rest = w at *
  simp
  first | refine Pure.use_le (pCmd_pure w) ?_ | refine callT_le (pCmd_pure w) ?_
  simp [ne_beq hcmd0]
  refine wpc_loopV (fun i : Nat => [(6, .any), (10, .any), (11, .any), (12, .any), (48, .any), (49, .any), (50, .any), (51, .any), (52, .any), (53, .any), (54, .any), (55, .any), (56, .any), (57, .any), (58, .any), (59, .any), (60, .any), (61, .any), (62, .any), (63, .any), (64, .any), (65, .any), (66, .any), (67, .any), (68, .any), (69, .any), (70, .any), (71, .any), (72, .any), (73, .any), (74, .any), (75, .any), (76, .any), (77, .any), (78, .any), (79, .any), (80, .any), (81, .any), (82, .any), (83, .any), (84, .any), (85, .any), (86, .any), (87, .any), (88, .any), (89, .any), (90, .any), (91, .any), (92, .any), (93, .any), (94, .any), (95, .any), (96, .any), (97, .any), (98, .any), (99, .any), (100, .any), (101, .any), (102, .any), (103, .any), (104, .any), (105, .any), (106, .any), (107, .any), (108, .any), (109, .any), (110, .any), (111, .any),  (10, .int .i64 i)]) ((ns.sub 3).sub 12) (fun i => (after w th i).cells) (fun i => th.length - i) (fun i => i ≤ th.length ∧ ¬ scmd (after w th i) = 0) 0 ⟨by simp, hcmd0⟩ ?_ (by simp only [Store.up_same]; rfl) ?_
  · simp
    (repeat' first | exact AVsle.nil | refine AVsle.cons (AVle.any _) ?_ | refine AVsle.cons (AVle.refl _) ?_ | refine AVsle.cons AVLe.le ?_)
  rintro i k ⟨hi, hcm⟩ hfr
  simp
  refine condK_cases (fun h => ?_) (fun h => ?_) <;> simp at h
  · have g := tget h
    have hs := after_succ (s := w) h
    have hm := hth.2 _ (tmem h)
    have hvi := after_valid hv2 th i
    generalize th.getD i tk0 = x at g hs hm
    have hstay := stay_cmd hvi hcm x.l x.ask x.rest
    have w1 : IntKind.wrap .i64 ((i : Int) + 1) = ((i + 1 : Nat) : Int) := wrap64 (by omega) (by omega)
    simp [tcs_get g]
    first | refine Pure.use_le (pStep_pure (after w th i) x.l x.ask x.rest (by omega) hvi) ?_ | refine callT_le (pStep_pure (after w th i) x.l x.ask x.rest (by omega) hvi) ?_
    have hcmd := pCmd_pure (stepS (after w th i) x.l x.ask x.rest)
    rw [← hs] at hstay hcmd ⊢
    simp
    first | refine Pure.use_le (hcmd) ?_ | refine callT_le (hcmd) ?_
    simp
    by_cases hz : scmd (after w th (i + 1)) = 0
    · obtain ⟨k1, k2, k3, k4, k5⟩ := hstay hz
      simp [hz, tcs_get g, show (x.ask == 4) = true by simp [k1], show x.rest = true from k2]
      first | refine Pure.use_le (asks_pure x.l (by omega)) ?_ | refine callT_le (asks_pure x.l (by omega)) ?_
      rw [k2] at k4
      simp [k3, k4, k5]
      exact endA_eq (by simp) (by simp)
    · simp [ne_beq hz, w1]
      refine loopG_normal (i + 1) ⟨by omega, hz⟩ (by omega) ?_ ?_ rfl rfl
      · simp
        (repeat' first | exact AVsle.nil | refine AVsle.cons (AVle.any _) ?_ | refine AVsle.cons (AVle.refl _) ?_ | refine AVsle.cons AVLe.le ?_)
      · ((try (dsimp only)); refine StWk.weak (StWk.turn (fun x hx => by first | exact hfr x hx | (have h := hfr x hx; simp only [Store.up_get] at h ⊢; split at h; (cases h); (exact h))) ?_ (fun m m1 m2 => ?_)); (rw [Store.up_same]); repeat' first | (with_reducible rfl) | rw [Store.up_get, if_neg m2] | rw [up_other (by simp [Nm.under]) m1])
  · simp
    exact endA_eq (by simp) (by simp)
end Go.Proofs
