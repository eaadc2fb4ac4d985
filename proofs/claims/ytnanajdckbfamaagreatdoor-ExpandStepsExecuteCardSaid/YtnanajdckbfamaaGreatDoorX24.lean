/- Expansion: the walk of ExpandStepsExecute. -/
import Derived.Test.YtnanajdckbfamaaGreatDoorX22
import Derived.Test.YtnanajdckbfamaaGreatDoorMG
set_option linter.unusedVariables false
set_option linter.unusedSimpArgs false
set_option maxRecDepth 100000
namespace Go.Proofs
open Go Go.Abs
attribute [local irreducible] wpc aSeq awAny endA guardK condK CallK callT aPlan onlyL takeL aeffK takeE loopG bodyA thenA inBlockA planK roundG assignG bodyI endI YieldK unrollG endP
theorem take_facts {s : Sp} {w w' : Ws} {c : Ce} (h : doE s w c = .ok w') (hk : s.kind = 3) (hst : StOk w c) : (s.arm = 0 ∨ s.arm = 1) ∧ (0 ≤ s.place ∧ s.place < c.places.length) ∧ w.held s.arm = -1 ∧ pC (c.arm s.arm) (w.q s.arm) = (plat c.places s.place.toNat).pos := by
  unfold doE at h
  split at h
  · cases h
  rename_i hn
  have ha : s.arm = 0 ∨ s.arm = 1 := by omega
  rw [if_neg (by omega), if_neg (by omega)] at h
  obtain ⟨h1, h2, h3, h4, h5⟩ := take_ok ha h
  have hh := hst.held s.arm
  unfold knownB at h1
  have h1 := of_decide_eq_true h1
  unfold thereB at h4
  simp at h4
  exact ⟨ha, h1.2, by omega, h4.1⟩
theorem great13_right {c : Ce} {l : List Wd} (h : great13 c l = false) : RightC c ∧ l.length ≤ 40 := by
  unfold great13 at h
  simp at h
  exact ⟨of_decide_eq_true h.1.2, h.2⟩
set_option maxHeartbeats 4000000 in
theorem execute_pure (c : Ce) (l : List Wd) (hok : ∀ x ∈ l, WdOk x) : PureG 4 [c.av, .sl 11 (wdcs l) .unk] (.bool true) := by
  refine pureG_val fun σ ns gl go _ hgo hg => ?_
  refine acalls_of_wpc Tryz.mixed Tryz.dr4 Tryz.func4 rfl (Tryz.fit4 _ rfl) Tryz.en4 (fun hσ => ?_); simp [Tryz.ntmps4]
  have hgg := ne_own hσ hg
  have hg2 := own_ne hσ hg
  refine head13_pure.use (gl := gl) hgo (by simp [hg, hgg, hg2]) ?_
  simp
  first | refine Pure.use_le (Great13_pure c l) ?_ | refine callT_le (Great13_pure c l) ?_
  simp
  refine condK_cases (fun h1 => ?_) (fun h1 => ?_) <;> simp [h1]
  · exact endA_eq rfl (by simp)
  obtain ⟨hc, h40⟩ := great13_right h1
  have hpre := first_pre hc
  have hpl : c.parts.length ≤ 1000000 := by have := hc.parts8; omega
  have hl : l.length ≤ 1000000000 := by omega
  have hin := smsOf_in hc l
  have hsl := smsOf_len c l
  have hall := playT_all (xs := smsOf c l) (l := []) hpre.1 (by simp)
  have hex : execM c (playT c (smsOf c l) (first c) []).1.2 (first c) = .ok (playT c (smsOf c l) (first c) []).1.1 := by
    obtain ⟨k, h1, h2⟩ := exec_playT (c := c) (xs := smsOf c l) (w := first c) (l := [])
    rw [h1]; exact h2
  have r1 := steps_pureG c (smsOf c l) (first c) (fun x hx => (hin x hx).ok) (by omega) hpre
  generalize playT c (smsOf c l) (first c) [] = p at *
  obtain ⟨⟨w', ss⟩, e, k⟩ := p
  dsimp only at hall r1 hex
  first | refine Pure.use_le (First9_pure c hpl) ?_ | refine callT_le (First9_pure c hpl) ?_
  simp
  first | refine Pure.use_le (Stmts_pure c hc l hl hok) ?_ | refine callT_le (Stmts_pure c hc l hl hok) ?_
  simp
  apply cut_
  · intro key
    repeat' apply And.intro
    all_goals
      refine (r1.weaken ?_).use (gl := gl) hgo (by simp [hg, hgg, hg2]) ?_
      · (repeat' first | exact AVsle.nil | refine AVsle.cons (AVle.any _) ?_ | refine AVsle.cons (AVle.refl _) ?_ | refine AVsle.cons AVLe.le ?_)
      simp
      exact key
  refine condK_cases (fun h2 => ?_) (fun h2 => ?_) <;> simp [h2] <;> (try simp at h2)
  · omega
  refine wpc_loopV (fun i : Nat => [(4, .any), (10, .any), (11, .any), (31, .any), (32, .any), (33, .any), (34, .any), (35, .any), (36, .any), (37, .any), (38, .any), (39, .any), (40, .any), (41, .any), (42, .any), (43, .any), (44, .any), (45, .any), (46, .any), (47, .any), (48, .any), (49, .any), (50, .any), (51, .any), (52, .any), (53, .any), (54, .any), (55, .any), (56, .any), (57, .any), (58, .any), (59, .any), (60, .any), (61, .any), (62, .any), (63, .any), (64, .any), (65, .any), (66, .any), (67, .any), (68, .any), (69, .any), (70, .any), (71, .any), (72, .any), (73, .any), (74, .any), (75, .any), (76, .any), (77, .any), (78, .any), (79, .any), (80, .any), (81, .any), (82, .any), (83, .any), (84, .any), (85, .any), (86, .any), (87, .any), (88, .any), (89, .any), (90, .any), (91, .any), (92, .any), (93, .any), (94, .any), (95, .any), (96, .any), (97, .any), (98, .any), (99, .any), (100, .any), (101, .any), (102, .any), (103, .any), (104, .any), (105, .any), (106, .any), (107, .any), (108, .any), (109, .any), (110, .any), (111, .any), (112, .any), (113, .any), (114, .any), (115, .any), (116, .any), (117, .any), (118, .any), (119, .any), (120, .any), (121, .any), (122, .any), (123, .any), (124, .any), (125, .any), (126, .any), (127, .any), (128, .any), (129, .any), (130, .any), (131, .any), (132, .any), (133, .any), (134, .any), (135, .any), (136, .any), (137, .any), (138, .any), (9, .int .i64 i)]) ((ns.sub 3).sub 2) (fun i => (behind c (first c) (ss.take i)).cells) (fun i => ss.length - i) (fun i => i ≤ ss.length) 0 (by simp) ?_ (by simp [behind]) ?_
  · simp
    (repeat' first | exact AVsle.nil | refine AVsle.cons (AVle.any _) ?_ | refine AVsle.cons (AVle.refl _) ?_ | refine AVsle.cons AVLe.le ?_)
  rintro i r hi hfr
  simp
  refine condK_cases (fun h => ?_) (fun h => ?_) <;> simp [h] <;> (try simp at h)
  · have hgx := spcs_get h
    have w1 : IntKind.wrap .i64 ((i : Int) + 1) = ((i + 1 : Nat) : Int) := wrap64 (by omega) (by omega)
    have hst := behind_st (l := ss.take i) hpre.1
    have hnx := exec_get hex h
    generalize behind c (first c) (ss.take i) = wb at *
    generalize hs : spat ss i = s at *
    simp [hgx]
    by_cases hk : s.kind = 3
    · have k3 : (s.kind == 3) = true := by simp [hk]
      obtain ⟨ha, hp, hh, hc3⟩ := take_facts hnx hk hst
      have hpn : s.place.toNat < c.places.length := by omega
      have hgp := plcs_get hpn
      obtain ⟨pl, hpl'⟩ : ∃ n : Nat, s.place = n := ⟨s.place.toNat, by omega⟩
      rw [hpl'] at hgp hc3 hpn
      simp only [Int.toNat_natCast] at hgp hc3 hpn
      have p0 : ¬ ((pl : Int) < 0) := by omega
      have p1 : ¬ (c.places.length ≤ pl) := by omega
      rcases ha with ha | ha
      · rw [ha] at hh hc3
        have hl : (wb.l0 != -1) = false := by rw [show wb.l0 = -1 from hh]; rfl
        simp [k3, hgx, ha, hpl', hgp, hl, p0, p1]
        first | refine Pure.use_le (jointPoints_pure c.a0 wb.q0 (right_spec hc.arm0)) ?_ | refine callT_le (jointPoints_pure c.a0 wb.q0 (right_spec hc.arm0)) ?_
        have hq : pC c.a0 wb.q0 = (plat c.places pl).pos := hc3
        simp [hgp, psav, hq, hgx]
        have a1 := apply_pureG c wb s (hc.wok hst)
        rw [hnx] at a1
        have hbs := behind_st (l := ss.take (i + 1)) hpre.1
        have hnw : ∀ w', w' = behind c (first c) (ss.take (i + 1)) → w' = behind c (first c) (ss.take (i + 1)) := fun _ h => h
        generalize hwn : behind c (first c) (ss.take (i + 1)) = wn at a1 hbs hnx
        apply cut_
        · intro key
          repeat' apply And.intro
          all_goals
            refine (a1.weaken ?_).use (gl := gl) hgo (by simp [hg, hgg, hg2]) ?_
            · (repeat' first | exact AVsle.nil | refine AVsle.cons (AVle.any _) ?_ | refine AVsle.cons (AVle.refl _) ?_ | refine AVsle.cons AVLe.le ?_)
            simp [refR]
            exact key
        first | refine Pure.use_le (Right13_pure c wn hc) ?_ | refine callT_le (Right13_pure c wn hc) ?_
        have hst2 : stOk wn c = true := by simp [stOk, hbs]
        simp [hst2, w1]
        refine loopG_normal (i + 1) (by omega) (by omega) ?_ ?_ rfl rfl
        · simp
          (repeat' first | exact AVsle.nil | refine AVsle.cons (AVle.any _) ?_ | refine AVsle.cons (AVle.refl _) ?_ | refine AVsle.cons AVLe.le ?_)
        · refine StWk.weak (StWk.turn hfr (by rw [hwn]; exact Store.up_same ..) (fun m m1 m2 => ?_))
          repeat' first | rfl | rw [Store.up_get, if_neg m2] | rw [up_other (ns := (ns.sub 7).sub r) (by simp [Nm.under]) m1]
      · rw [ha] at hh hc3
        have hl : (wb.l1 != -1) = false := by rw [show wb.l1 = -1 from hh]; rfl
        simp [k3, hgx, ha, hpl', hgp, hl, p0, p1]
        first | refine Pure.use_le (jointPoints_pure c.a1 wb.q1 (right_spec hc.arm1)) ?_ | refine callT_le (jointPoints_pure c.a1 wb.q1 (right_spec hc.arm1)) ?_
        have hq : pC c.a1 wb.q1 = (plat c.places pl).pos := hc3
        simp [hgp, psav, hq, hgx]
        have a1 := apply_pureG c wb s (hc.wok hst)
        rw [hnx] at a1
        have hbs := behind_st (l := ss.take (i + 1)) hpre.1
        have hnw : ∀ w', w' = behind c (first c) (ss.take (i + 1)) → w' = behind c (first c) (ss.take (i + 1)) := fun _ h => h
        generalize hwn : behind c (first c) (ss.take (i + 1)) = wn at a1 hbs hnx
        apply cut_
        · intro key
          repeat' apply And.intro
          all_goals
            refine (a1.weaken ?_).use (gl := gl) hgo (by simp [hg, hgg, hg2]) ?_
            · (repeat' first | exact AVsle.nil | refine AVsle.cons (AVle.any _) ?_ | refine AVsle.cons (AVle.refl _) ?_ | refine AVsle.cons AVLe.le ?_)
            simp [refR]
            exact key
        first | refine Pure.use_le (Right13_pure c wn hc) ?_ | refine callT_le (Right13_pure c wn hc) ?_
        have hst2 : stOk wn c = true := by simp [stOk, hbs]
        simp [hst2, w1]
        refine loopG_normal (i + 1) (by omega) (by omega) ?_ ?_ rfl rfl
        · simp
          (repeat' first | exact AVsle.nil | refine AVsle.cons (AVle.any _) ?_ | refine AVsle.cons (AVle.refl _) ?_ | refine AVsle.cons AVLe.le ?_)
        · refine StWk.weak (StWk.turn hfr (by rw [hwn]; exact Store.up_same ..) (fun m m1 m2 => ?_))
          repeat' first | rfl | rw [Store.up_get, if_neg m2] | rw [up_other (ns := (ns.sub 7).sub r) (by simp [Nm.under]) m1]
    · have k3 : (s.kind == 3) = false := by simp [hk]
      simp [k3, hgx]
      have a1 := apply_pureG c wb s (hc.wok hst)
      rw [hnx] at a1
      have hbs := behind_st (l := ss.take (i + 1)) hpre.1
      have hnw : ∀ w', w' = behind c (first c) (ss.take (i + 1)) → w' = behind c (first c) (ss.take (i + 1)) := fun _ h => h
      generalize hwn : behind c (first c) (ss.take (i + 1)) = wn at a1 hbs hnx
      apply cut_
      · intro key
        repeat' apply And.intro
        all_goals
          refine (a1.weaken ?_).use (gl := gl) hgo (by simp [hg, hgg, hg2]) ?_
          · (repeat' first | exact AVsle.nil | refine AVsle.cons (AVle.any _) ?_ | refine AVsle.cons (AVle.refl _) ?_ | refine AVsle.cons AVLe.le ?_)
          simp [refR]
          exact key
      first | refine Pure.use_le (Right13_pure c wn hc) ?_ | refine callT_le (Right13_pure c wn hc) ?_
      have hst2 : stOk wn c = true := by simp [stOk, hbs]
      simp [hst2, w1]
      refine loopG_normal (i + 1) (by omega) (by omega) ?_ ?_ rfl rfl
      · simp
        (repeat' first | exact AVsle.nil | refine AVsle.cons (AVle.any _) ?_ | refine AVsle.cons (AVle.refl _) ?_ | refine AVsle.cons AVLe.le ?_)
      · refine StWk.weak (StWk.turn hfr (by rw [hwn]; exact Store.up_same ..) (fun m m1 m2 => ?_))
        repeat' first | rfl | rw [Store.up_get, if_neg m2] | rw [up_other (ns := (ns.sub 7).sub r) (by simp [Nm.under]) m1]
  · obtain rfl : i = ss.length := by omega
    simp
    exact endA_eq rfl (by simp)
end Go.Proofs
