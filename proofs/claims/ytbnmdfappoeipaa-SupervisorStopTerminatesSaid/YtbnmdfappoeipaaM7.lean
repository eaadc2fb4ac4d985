/- The walk of SupervisorStopTerminates: it returns true. -/
import Derived.Test.YtbnmdfappoeipaaM4
set_option linter.unusedVariables false
set_option linter.unusedSimpArgs false
set_option maxRecDepth 100000
namespace Go.Proofs
open Go Go.Abs
attribute [local irreducible] wpc aSeq awAny endA guardK condK CallK callT aPlan onlyL takeL aeffK takeE loopG bodyA thenA inBlockA planK roundG assignG bodyI endI YieldK unrollG
set_option maxHeartbeats 4000000 in
theorem law7 (l : List Tk) (t : Tk) (th : List Tk) : Pure Try.prog 7 [.sl 3 (tcs l) .unk, t.av, .sl 3 (tcs th) .unk] (.bool true) := by
  intro σ ns; refine acalls_of_wpc Try.mixed Try.dr7 Try.func7 rfl (Try.fit7 _ rfl) Try.en7 (fun hσ => ?_); simp [Try.ntmps7]
  first | refine Pure.use_le (head_pure) ?_ | refine callT_le (head_pure) ?_
  simp
  first | refine Pure.use_le (great_pure l) ?_ | refine callT_le (great_pure l) ?_
  simp
  rcases Bool.eq_false_or_eq_true (great l) with hg | hg
  · simp [hg]
    exact endA_eq (by simp) (by simp)
  simp [hg]
  first | refine Pure.use_le (great_pure th) ?_ | refine callT_le (great_pure th) ?_
  simp
  rcases Bool.eq_false_or_eq_true (great th) with hg2 | hg2
  · simp [hg2]
    exact endA_eq (by simp) (by simp)
  by_cases ht : (40 : Int) < t.l.length
  · simp [hg2, ht]
    exact endA_eq (by simp) (by simp)
  simp [hg2, ht]
  have hv := behind_ok (l := l)
  have hv2 := stepS_valid t.l t.ask t.rest hv
  have hth := great_false hg2
  first | refine Pure.use_le (behind_pure l hg) ?_ | refine callT_le (behind_pure l hg) ?_
  simp
  first | refine Pure.use_le (pStep_pure (after s0 l l.length) t.l t.ask t.rest (by omega) hv) ?_ | refine callT_le (pStep_pure (after s0 l l.length) t.l t.ask t.rest (by omega) hv) ?_
  generalize stepS (after s0 l l.length) t.l t.ask t.rest = w at *
  have hl60 := (sval_iff.1 hv2).1.left
  simp
  by_cases h3 : w.mode = 3
  rotate_left
  · simp [ne_bne h3]
    exact endA_eq (by simp) (by simp)
  simp [show (w.mode != 3) = false by simp [h3]]
  refine wpc_loopV (fun i : Nat => [(6, .any), (10, .any), (11, .any), (12, .any), (43, .any), (44, .any), (45, .any), (46, .any), (47, .any), (48, .any), (49, .any), (50, .any), (51, .any), (52, .any), (53, .any), (54, .any), (55, .any), (56, .any), (57, .any), (58, .any), (59, .any), (60, .any), (61, .any), (62, .any), (63, .any), (64, .any), (65, .any), (66, .any), (67, .any), (68, .any), (69, .any), (70, .any), (71, .any), (72, .any), (73, .any), (74, .any), (75, .any), (76, .any), (77, .any), (78, .any), (79, .any), (80, .any), (81, .any), (82, .any), (83, .any), (84, .any), (85, .any), (86, .any), (87, .any), (88, .any), (89, .any), (90, .any), (91, .any), (92, .any), (93, .any), (94, .any), (95, .any), (96, .any), (97, .any), (98, .any), (99, .any), (100, .any), (101, .any), (102, .any), (103, .any), (104, .any), (105, .any), (106, .any), (107, .any), (108, .any), (109, .any),  (10, .int .i64 i)]) ((ns.sub 3).sub 12) (fun i => (after w th i).cells) (fun i => th.length - i) (fun i => i ≤ th.length ∧ (after w th i).mode = 3 ∧ ((after w th i).left ≤ 60 - (i : Int) ∨ (60 < i ∧ (after w th i).left ≤ 0))) 0 ⟨by simp, h3, .inl (by simp; exact hl60.2)⟩ ?_ (by simp only [Store.up_same]; rfl) ?_
  · simp
    (repeat' first | exact AVsle.nil | refine AVsle.cons (AVle.any _) ?_ | refine AVsle.cons (AVle.refl _) ?_ | refine AVsle.cons AVLe.le ?_)
  rintro i k ⟨hi, hm3, hlf⟩ hfr
  simp
  refine condK_cases (fun h => ?_) (fun h => ?_) <;> simp at h
  · have g := tget h
    have hs := after_succ (s := w) h
    have hm := hth.2 _ (tmem h)
    have hvi := after_valid hv2 th i
    have hvi1 := (sval_iff.1 (after_valid hv2 th (i + 1))).1.left
    generalize th.getD i tk0 = x at g hs hm
    have hlaw := stop_law hvi hm3 x.l x.ask x.rest
    have w1 : IntKind.wrap .i64 ((i : Int) + 1) = ((i + 1 : Nat) : Int) := wrap64 (by omega) (by omega)
    simp [tcs_get g]
    first | refine Pure.use_le (pStep_pure (after w th i) x.l x.ask x.rest (by omega) hvi) ?_ | refine callT_le (pStep_pure (after w th i) x.l x.ask x.rest (by omega) hvi) ?_
    have hcmd := pCmd_pure (stepS (after w th i) x.l x.ask x.rest)
    rw [← hs] at hlaw hcmd ⊢
    simp
    rcases Bool.eq_false_or_eq_true x.rest with hr | hr
    · have := hlaw.1 hr
      rcases this with h4 | h4
      · simp [h4, tcs_get g, hr]
        exact endA_eq (by simp) (by simp)
      · simp [h4, tcs_get g, hr]
        exact endA_eq (by simp) (by simp)
    · obtain ⟨k1, k2, k3⟩ := hlaw.2 hr
      have hlf2 : (after w th (i + 1)).left ≤ 60 - ((i + 1 : Nat) : Int) ∨ (60 < i + 1 ∧ (after w th (i + 1)).left ≤ 0) := by
        rw [k2]; split <;> omega
      simp [show ((after w th (i + 1)).mode != 3) = false by simp [k1], tcs_get g, hr]
      by_cases h59 : (59 : Int) ≤ i
      · have hz : (after w th (i + 1)).cat = 0 := k3 (by omega)
        have hc2 : scmd (after w th (i + 1)) = 2 := by simp [scmd, k1, hz]
        simp [h59, show ((after w th (i + 1)).cat != 0) = false by simp [hz]]
        first | refine Pure.use_le (hcmd) ?_ | refine callT_le (hcmd) ?_
        simp [hc2, w1]
        refine loopG_normal (i + 1) ⟨by omega, k1, hlf2⟩ (by omega) ?_ ?_ rfl rfl
        · simp
          (repeat' first | exact AVsle.nil | refine AVsle.cons (AVle.any _) ?_ | refine AVsle.cons (AVle.refl _) ?_ | refine AVsle.cons AVLe.le ?_)
        · ((try (dsimp only)); refine StWk.weak (StWk.turn (fun x hx => by first | exact hfr x hx | (have h := hfr x hx; simp only [Store.up_get] at h ⊢; split at h; (cases h); (exact h))) ?_ (fun m m1 m2 => ?_)); (rw [Store.up_same]); repeat' first | (with_reducible rfl) | rw [Store.up_get, if_neg m2] | rw [up_other (by simp [Nm.under]) m1])
      · simp [h59, w1]
        refine loopG_normal (i + 1) ⟨by omega, k1, hlf2⟩ (by omega) ?_ ?_ rfl rfl
        · simp
          (repeat' first | exact AVsle.nil | refine AVsle.cons (AVle.any _) ?_ | refine AVsle.cons (AVle.refl _) ?_ | refine AVsle.cons AVLe.le ?_)
        · ((try (dsimp only)); refine StWk.weak (StWk.turn (fun x hx => by first | exact hfr x hx | (have h := hfr x hx; simp only [Store.up_get] at h ⊢; split at h; (cases h); (exact h))) ?_ (fun m m1 m2 => ?_)); (rw [Store.up_same]); repeat' first | (with_reducible rfl) | rw [Store.up_get, if_neg m2] | rw [up_other (by simp [Nm.under]) m1])
  · simp
    exact endA_eq (by simp) (by simp)
end Go.Proofs
