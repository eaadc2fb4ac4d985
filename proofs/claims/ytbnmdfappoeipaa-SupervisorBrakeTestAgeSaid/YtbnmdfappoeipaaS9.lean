/- Walks: the supervisor's tick. -/
import Derived.Test.YtbnmdfappoeipaaS8
set_option linter.unusedVariables false
set_option linter.unusedSimpArgs false
set_option maxRecDepth 100000
namespace Go.Proofs
open Go Go.Abs
attribute [local irreducible] wpc aSeq awAny endA guardK condK CallK callT aPlan onlyL takeL aeffK takeE loopG bodyA thenA inBlockA planK roundG assignG bodyI endI YieldK unrollG
theorem mn_comm (a b : Int) : mn a b = mn b a := by unfold mn; split <;> split <;> omega
theorem min_pure (a b : Int) : Pure Try.prog 33 [.sl 1 [[.int .i64 b], [.int .i64 a]] .unk] (.int .i64 (mn a b)) := by
  intro σ ns; refine acalls_of_wpc Try.mixed Try.dr33 Try.func33 rfl (Try.fit33 _ rfl) Try.en33 (fun hσ => ?_); simp [Try.ntmps33]
  refine wpc_unroll 2 (fun k => ?_)
  simp
  refine unroll_next (fun k' => ?_)
  simp
  exact endA_eq (by rw [mn_comm]; rfl) (by simp)
theorem worst_pure (a b : Int) : Pure Try.prog 26 [.int .i64 a, .sl 1 [[.int .i64 b]] .exact] (.int .i64 (mn a b)) := by
  intro σ ns; refine acalls_of_wpc Try.mixed Try.dr26 Try.func26 rfl (Try.fit26 _ rfl) Try.en26 (fun hσ => ?_); simp [Try.ntmps26]
  refine Pure.use ((min_pure a b).weaken (.cons .unk .nil)) ?_
  simp
  exact endA_eq (by simp) (by simp)
def modeL : List (AV × AV) := [(.int .i64 1, .fn (.func 34) [] []), (.int .i64 2, .fn (.func 35) [] []), (.int .i64 3, .fn (.func 36) [] []), (.int .i64 4, .fn (.func 37) [] []), (.int .i64 5, .fn (.func 38) [] [])]
theorem modes_calls (σ : Store) (ns : Nm) : ACalls Try.prog 27 [] σ ns fun e σ' => e = .ret (.map ((ns.sub 1).sub 0)) ∧ σ' = σ.up ((ns.sub 1).sub 0) (.map modeL) := by
  refine acalls_of_wpc Try.mixed Try.dr27 Try.func27 rfl (Try.fit27 _ rfl) Try.en27 (fun hσ => ?_); simp [Try.ntmps27]
  exact endA_intro (StWk.weak (.refl _)) ⟨rfl, rfl⟩
theorem error_calls (w : Wk) (σ : Store) (ns n : Nm) (hn : σ n = some (.var w.cells)) : ACalls Try.prog 28 [.ptr n 0] σ ns fun e σ' => e = .ret (.int .i64 (errS w.s w.ask)) ∧ σ' = σ := by
  refine acalls_of_wpc Try.mixed Try.dr28 Try.func28 rfl (Try.fit28 _ rfl) Try.en28 (fun hσ => ?_); simp [Try.ntmps28]
  simp [hn]
  by_cases ha : w.ask < 0
  · simp [ha, hn]
    exact endA_eq (by simp [errS, ha]) (by simp)
  by_cases hb : 5 < w.ask
  · simp [ha, hb, hn]
    exact endA_eq (by simp [errS, ha, hb]) (by simp)
  simp [ha, hb, hn]
  by_cases h4 : w.ask = 4
  · by_cases g : w.s.mode = 1
    · simp [h4, g, hn]
      exact endA_eq (by simp [errS, h4, g]) (by simp)
    · simp [h4, ne_bne g, hn]
      exact endA_eq (by simp [errS, h4, g]) (by simp)
  by_cases h1 : w.ask = 1
  · by_cases g : w.s.mode = 2
    · simp [h1, g, hn]
      exact endA_eq (by simp [errS, h1, g]) (by simp)
    · simp [h1, ne_bne g, hn]
      exact endA_eq (by simp [errS, h1, g]) (by simp)
  simp [ne_beq h4, ne_beq h1, hn]
  exact endA_eq (by simp [errS, h1, h4, ha, hb]) (by simp)
def work (s : SS) (l : List Vi) (ask : Int) (rest : Bool) : Wk := ⟨tickS s, l, ask, rest, dem l ask⟩
def methS (s : SS) (w : Wk) : Wk := if s.mode = 1 then idleW w else if s.mode = 2 then movingW w else if s.mode = 3 then stoppingW w else if s.mode = 4 then stoppedW w else holdingW w
theorem methS_spec {s : SS} (h : sval s = true) (l : List Vi) (ask : Int) (rest : Bool) : (methS s (work s l ask rest)).s = runS s l ask rest ∧ (methS s (work s l ask rest)).ask = ask ∧ (methS s (work s l ask rest)).rest = rest := by
  obtain ⟨⟨h1, h2, h3, h4⟩, h5⟩ := sval_iff.1 h
  have d := dem_bd l ask
  obtain ⟨mode, cat, left, ca, t0, t1⟩ := s
  simp only at h1 h2 h3 h4 h5
  unfold methS runS work
  generalize dem l ask = c at d
  simp only [tickS]
  rcases h5 with ⟨hm | hm, hc, hl, hca⟩ | ⟨hm, hc⟩ | ⟨hm, hc, hl⟩ | ⟨hm, hc, hl⟩
  · obtain rfl : ca = [] := List.length_eq_zero_iff.1 hca
    subst hm
    simp only [if_pos, true_or]
    unfold idleW goingS stopW halt Wk.set
    simp only
    by_cases h3 : c = 3
    · subst h3; by_cases ha : ask = 1 <;> simp [ha]
    · rw [if_pos (by omega), if_neg h3]
      cases rest <;> simp
  · obtain rfl : ca = [] := List.length_eq_zero_iff.1 hca
    subst hm
    simp
    unfold movingW goingS stopW halt Wk.set
    simp only
    by_cases h3 : c = 3
    · subst h3; simp
    · rw [if_pos (by omega), if_neg h3]
      cases rest <;> simp
  · subst hm
    simp
    have hlf : (if 0 < left then left - 1 else left) = if 1 < left then left - 1 else 0 := by split <;> split <;> omega
    unfold stoppingW worseW worsenW slowW stoppingS Wk.set halt
    simp only [hlf]
    by_cases hcc : c < cat
    · simp only [hcc, if_true]
      cases rest <;> simp
    · simp only [hcc, if_false]
      cases rest <;> simp
  · subst hm
    simp
    unfold stoppedW stillS Wk.set
    simp only
    by_cases hx : ask = 4 ∧ rest = true ∧ c = 3
    · simp [hx]
    · rw [if_neg hx, if_neg (by simp), if_neg hx]; simp
  · subst hm
    simp
    unfold holdingW stoppedW stillS worsenW Wk.set
    simp only
    by_cases hx : c < 2
    · simp [hx]
    · by_cases hy : ask = 4 ∧ rest = true ∧ c = 3
      · obtain ⟨rfl, rfl, rfl⟩ := hy
        simp
      · simp only [hx, and_false, if_false, hy, and_self]
abbrev wl (s : SS) (l : List Vi) (ask : Int) (rest : Bool) (c : Int) : List AV := [.int .i64 s.mode, .int .i64 s.cat, .int .i64 s.left, .sl 4 (vcs s.ca) .unk, .int .i64 (tk s.t0), .int .i64 (tk s.t1), .sl 4 (vcs l) .unk, .int .i64 ask, .bool rest, .int .i64 c]
set_option maxHeartbeats 16000000 in
theorem pStep_pure (s : SS) (l : List Vi) (ask : Int) (rest : Bool) (hl : l.length ≤ 1000) (h : sval s = true) : Pure Try.prog 19 [s.av, .sl 4 (vcs l) .unk, .int .i64 ask, .bool rest] (.tup [(stepS s l ask rest).av, .int .i64 (stepE s l ask rest)]) := by
  have hk := (sval_iff.1 h).1
  have hms := (sval_iff.1 h).2
  have w0 : IntKind.wrap .i64 (s.t0 + 1) = s.t0 + 1 := wrap64 (by have := hk.t0; omega) (by have := hk.t0; omega)
  have w1 : IntKind.wrap .i64 (s.t1 + 1) = s.t1 + 1 := wrap64 (by have := hk.t1; omega) (by have := hk.t1; omega)
  have e0 : (if 1073741824 < s.t0 + 1 then 1073741824 else s.t0 + 1) = tk s.t0 := by unfold tk; split <;> split <;> omega
  have e1 : (if 1073741824 < s.t1 + 1 then 1073741824 else s.t1 + 1) = tk s.t1 := by unfold tk; split <;> split <;> omega
  have hspec := methS_spec h l ask rest
  intro σ ns; refine acalls_of_wpc Try.mixed Try.dr19 Try.func19 rfl (Try.fit19 _ rfl) Try.en19 (fun hσ => ?_); simp [Try.ntmps19]
  refine wpc_unroll 2 (fun k => ?_)
  simp [w0, e0]
  refine unroll_next (fun k' => ?_)
  simp [w1, e1]
  refine unroll_next (fun k'' => ?_)
  simp
  refine wpc_loop (fun i : Nat => [(14, .any), (43, .any), (44, .any), (45, .any), (46, .any), (47, .any), (48, .any), (49, .any), (50, .any), (51, .any), (52, .any), (53, .any), (54, .any), (55, .any), (56, .any), (57, .any), (58, .any),  (43, .int .i64 i)]) (fun i => ((σ.up ((ns.sub 0).sub 0) (.var s.cells)).up ((ns.sub 0).sub 1) (.var [.int .i64 0, .int .i64 0, .int .i64 0, .sl 0 [] .nil, .int .i64 0, .int .i64 0])).up ((ns.sub 1).sub 5) (.var (wl s l ask rest (worstOf l i)))) (fun i => l.length - i) (fun i => i ≤ l.length) 0 (by simp) ?_ ?_ ?_
  · simp
    (repeat' first | exact AVsle.nil | refine AVsle.cons (AVle.any _) ?_ | refine AVsle.cons (AVle.refl _) ?_ | refine AVsle.cons AVLe.le ?_)
  · exact .refl _
  rintro i k3 hi
  simp
  refine condK_cases (fun h => ?_) (fun h => ?_) <;> simp at h
  · have g := vget h
    have hs := worstOf_succ h
    generalize l.getD i v0 = x at g hs
    have w2 : IntKind.wrap .i64 ((i : Int) + 1) = ((i + 1 : Nat) : Int) := wrap64 (by omega) (by omega)
    simp [vcs_get g]
    first | refine Pure.use_le (pCat_pure x) ?_ | refine callT_le (pCat_pure x) ?_
    simp
    first | refine Pure.use_le (worst_pure (worstOf l i) (vcat x)) ?_ | refine callT_le (worst_pure (worstOf l i) (vcat x)) ?_
    simp [w2]
    refine loopG_normal (i + 1) (by omega) (by omega) ?_ ?_ rfl rfl
    · simp
      (repeat' first | exact AVsle.nil | refine AVsle.cons (AVle.any _) ?_ | refine AVsle.cons (AVle.refl _) ?_ | refine AVsle.cons AVLe.le ?_)
    · rw [hs]
      (try dsimp only; refine StWk.weak ?_; repeat' first | exact StWk.refl _ | refine StWk.up_same ?_ (by simp) | refine StWk.own_up ?_ (hσ _ (by simp [Nm.under])))
  obtain rfl : i = l.length := by omega
  have hwm : (work s l ask rest).s.mode = s.mode := rfl
  have hwok : WOk (work s l ask rest) := ⟨⟨hk.left, hk.ca, tk_bd hk.t0, tk_bd hk.t1⟩, hl⟩
  have hwv : ∀ c, c = dem l ask → AObj.var [AV.int .i64 s.mode, AV.int .i64 s.cat, AV.int .i64 s.left, AV.sl 4 (vcs s.ca) .unk, AV.int .i64 (tk s.t0), AV.int .i64 (tk s.t1), AV.sl 4 (vcs l) .unk, AV.int .i64 ask, AV.bool rest, AV.int .i64 c] = .var (work s l ask rest).cells := fun c e => by rw [e]; rfl
  have hm5 : s.mode = 1 ∨ s.mode = 2 ∨ s.mode = 3 ∨ s.mode = 4 ∨ s.mode = 5 := by omega
  unfold stepS stepE
  rw [← hspec.1]
  have hva := hspec.2.1
  have hvr := hspec.2.2
  simp
  by_cases ha2 : ask = 2
  · simp [show (ask == 2) = true by simp [ha2]]
    first | refine Pure.use_le (worst_pure (worstOf l l.length) 2) ?_ | refine callT_le (worst_pure (worstOf l l.length) 2) ?_
    simp
    rw [hwv _ (by simp [dem, ha2, vmin])]
    rcases hm5 with hm | hm | hm | hm | hm
    · have em : idleW (work s l ask rest) = methS s (work s l ask rest) := by simp [methS, hm]
      simp [hwm, hm]
      refine ⟨CallK.use (modes_calls _ _) ?_, CallK.use (modes_calls _ _) ?_⟩ <;> simp [hwm, hm, modeL]
      all_goals
        refine MCall.use idle_m (w := work s l ask rest) hwok (by simp) ?_
        rw [em]
        generalize methS s (work s l ask rest) = v at hva hvr ⊢
        simp
        by_cases h4 : v.s.mode = 4
        · rcases Bool.eq_false_or_eq_true rest with hr | hr
          · simp [h4, hr]
            refine ⟨CallK.use (error_calls (v.set { v.s with t0 := 0, t1 := 0 }) _ _ _ (by simp [Wk.set, h4])) ?_, CallK.use (error_calls (v.set { v.s with t0 := 0, t1 := 0 }) _ _ _ (by simp [Wk.set, h4])) ?_⟩ <;> simp
            all_goals exact endA_eq (by simp [finS, errS, h4, hr, Wk.set, hva]) (by simp)
          · simp [h4, hr]
            refine ⟨CallK.use (error_calls v _ _ _ (by simp)) ?_, CallK.use (error_calls v _ _ _ (by simp)) ?_⟩ <;> simp
            all_goals exact endA_eq (by simp [finS, errS, h4, hr, hva]) (by simp)
        · simp [ne_beq h4]
          refine ⟨CallK.use (error_calls v _ _ _ (by simp)) ?_, CallK.use (error_calls v _ _ _ (by simp)) ?_⟩ <;> simp
          all_goals exact endA_eq (by simp [finS, errS, h4, hva]) (by simp)
    · have em : movingW (work s l ask rest) = methS s (work s l ask rest) := by simp [methS, hm]
      simp [hwm, hm]
      refine ⟨CallK.use (modes_calls _ _) ?_, CallK.use (modes_calls _ _) ?_⟩ <;> simp [hwm, hm, modeL]
      all_goals
        refine MCall.use moving_m (w := work s l ask rest) hwok (by simp) ?_
        rw [em]
        generalize methS s (work s l ask rest) = v at hva hvr ⊢
        simp
        by_cases h4 : v.s.mode = 4
        · rcases Bool.eq_false_or_eq_true rest with hr | hr
          · simp [h4, hr]
            refine ⟨CallK.use (error_calls (v.set { v.s with t0 := 0, t1 := 0 }) _ _ _ (by simp [Wk.set, h4])) ?_, CallK.use (error_calls (v.set { v.s with t0 := 0, t1 := 0 }) _ _ _ (by simp [Wk.set, h4])) ?_⟩ <;> simp
            all_goals exact endA_eq (by simp [finS, errS, h4, hr, Wk.set, hva]) (by simp)
          · simp [h4, hr]
            refine ⟨CallK.use (error_calls v _ _ _ (by simp)) ?_, CallK.use (error_calls v _ _ _ (by simp)) ?_⟩ <;> simp
            all_goals exact endA_eq (by simp [finS, errS, h4, hr, hva]) (by simp)
        · simp [ne_beq h4]
          refine ⟨CallK.use (error_calls v _ _ _ (by simp)) ?_, CallK.use (error_calls v _ _ _ (by simp)) ?_⟩ <;> simp
          all_goals exact endA_eq (by simp [finS, errS, h4, hva]) (by simp)
    · have em : stoppingW (work s l ask rest) = methS s (work s l ask rest) := by simp [methS, hm]
      simp [hwm, hm]
      refine ⟨CallK.use (modes_calls _ _) ?_, CallK.use (modes_calls _ _) ?_⟩ <;> simp [hwm, hm, modeL]
      all_goals
        refine MCall.use stopping_m (w := work s l ask rest) hwok (by simp) ?_
        rw [em]
        generalize methS s (work s l ask rest) = v at hva hvr ⊢
        simp
        by_cases h4 : v.s.mode = 4
        · rcases Bool.eq_false_or_eq_true rest with hr | hr
          · simp [h4, hr]
            refine ⟨CallK.use (error_calls (v.set { v.s with t0 := 0, t1 := 0 }) _ _ _ (by simp [Wk.set, h4])) ?_, CallK.use (error_calls (v.set { v.s with t0 := 0, t1 := 0 }) _ _ _ (by simp [Wk.set, h4])) ?_⟩ <;> simp
            all_goals exact endA_eq (by simp [finS, errS, h4, hr, Wk.set, hva]) (by simp)
          · simp [h4, hr]
            refine ⟨CallK.use (error_calls v _ _ _ (by simp)) ?_, CallK.use (error_calls v _ _ _ (by simp)) ?_⟩ <;> simp
            all_goals exact endA_eq (by simp [finS, errS, h4, hr, hva]) (by simp)
        · simp [ne_beq h4]
          refine ⟨CallK.use (error_calls v _ _ _ (by simp)) ?_, CallK.use (error_calls v _ _ _ (by simp)) ?_⟩ <;> simp
          all_goals exact endA_eq (by simp [finS, errS, h4, hva]) (by simp)
    · have em : stoppedW (work s l ask rest) = methS s (work s l ask rest) := by simp [methS, hm]
      simp [hwm, hm]
      refine ⟨CallK.use (modes_calls _ _) ?_, CallK.use (modes_calls _ _) ?_⟩ <;> simp [hwm, hm, modeL]
      all_goals
        refine MCall.use stopped_m (w := work s l ask rest) hwok (by simp) ?_
        rw [em]
        generalize methS s (work s l ask rest) = v at hva hvr ⊢
        simp
        by_cases h4 : v.s.mode = 4
        · rcases Bool.eq_false_or_eq_true rest with hr | hr
          · simp [h4, hr]
            refine ⟨CallK.use (error_calls (v.set { v.s with t0 := 0, t1 := 0 }) _ _ _ (by simp [Wk.set, h4])) ?_, CallK.use (error_calls (v.set { v.s with t0 := 0, t1 := 0 }) _ _ _ (by simp [Wk.set, h4])) ?_⟩ <;> simp
            all_goals exact endA_eq (by simp [finS, errS, h4, hr, Wk.set, hva]) (by simp)
          · simp [h4, hr]
            refine ⟨CallK.use (error_calls v _ _ _ (by simp)) ?_, CallK.use (error_calls v _ _ _ (by simp)) ?_⟩ <;> simp
            all_goals exact endA_eq (by simp [finS, errS, h4, hr, hva]) (by simp)
        · simp [ne_beq h4]
          refine ⟨CallK.use (error_calls v _ _ _ (by simp)) ?_, CallK.use (error_calls v _ _ _ (by simp)) ?_⟩ <;> simp
          all_goals exact endA_eq (by simp [finS, errS, h4, hva]) (by simp)
    · have em : holdingW (work s l ask rest) = methS s (work s l ask rest) := by simp [methS, hm]
      simp [hwm, hm]
      refine ⟨CallK.use (modes_calls _ _) ?_, CallK.use (modes_calls _ _) ?_⟩ <;> simp [hwm, hm, modeL]
      all_goals
        refine MCall.use holding_m (w := work s l ask rest) hwok (by simp) ?_
        rw [em]
        generalize methS s (work s l ask rest) = v at hva hvr ⊢
        simp
        by_cases h4 : v.s.mode = 4
        · rcases Bool.eq_false_or_eq_true rest with hr | hr
          · simp [h4, hr]
            refine ⟨CallK.use (error_calls (v.set { v.s with t0 := 0, t1 := 0 }) _ _ _ (by simp [Wk.set, h4])) ?_, CallK.use (error_calls (v.set { v.s with t0 := 0, t1 := 0 }) _ _ _ (by simp [Wk.set, h4])) ?_⟩ <;> simp
            all_goals exact endA_eq (by simp [finS, errS, h4, hr, Wk.set, hva]) (by simp)
          · simp [h4, hr]
            refine ⟨CallK.use (error_calls v _ _ _ (by simp)) ?_, CallK.use (error_calls v _ _ _ (by simp)) ?_⟩ <;> simp
            all_goals exact endA_eq (by simp [finS, errS, h4, hr, hva]) (by simp)
        · simp [ne_beq h4]
          refine ⟨CallK.use (error_calls v _ _ _ (by simp)) ?_, CallK.use (error_calls v _ _ _ (by simp)) ?_⟩ <;> simp
          all_goals exact endA_eq (by simp [finS, errS, h4, hva]) (by simp)
  by_cases ha3 : ask = 3
  · simp [ne_beq ha2, show (ask == 3) = true by simp [ha3]]
    first | refine Pure.use_le (worst_pure (worstOf l l.length) 1) ?_ | refine callT_le (worst_pure (worstOf l l.length) 1) ?_
    simp
    rw [hwv _ (by simp [dem, ha3, vmin])]
    rcases hm5 with hm | hm | hm | hm | hm
    · have em : idleW (work s l ask rest) = methS s (work s l ask rest) := by simp [methS, hm]
      simp [hwm, hm]
      refine ⟨CallK.use (modes_calls _ _) ?_, CallK.use (modes_calls _ _) ?_⟩ <;> simp [hwm, hm, modeL]
      all_goals
        refine MCall.use idle_m (w := work s l ask rest) hwok (by simp) ?_
        rw [em]
        generalize methS s (work s l ask rest) = v at hva hvr ⊢
        simp
        by_cases h4 : v.s.mode = 4
        · rcases Bool.eq_false_or_eq_true rest with hr | hr
          · simp [h4, hr]
            refine ⟨CallK.use (error_calls (v.set { v.s with t0 := 0, t1 := 0 }) _ _ _ (by simp [Wk.set, h4])) ?_, CallK.use (error_calls (v.set { v.s with t0 := 0, t1 := 0 }) _ _ _ (by simp [Wk.set, h4])) ?_⟩ <;> simp
            all_goals exact endA_eq (by simp [finS, errS, h4, hr, Wk.set, hva]) (by simp)
          · simp [h4, hr]
            refine ⟨CallK.use (error_calls v _ _ _ (by simp)) ?_, CallK.use (error_calls v _ _ _ (by simp)) ?_⟩ <;> simp
            all_goals exact endA_eq (by simp [finS, errS, h4, hr, hva]) (by simp)
        · simp [ne_beq h4]
          refine ⟨CallK.use (error_calls v _ _ _ (by simp)) ?_, CallK.use (error_calls v _ _ _ (by simp)) ?_⟩ <;> simp
          all_goals exact endA_eq (by simp [finS, errS, h4, hva]) (by simp)
    · have em : movingW (work s l ask rest) = methS s (work s l ask rest) := by simp [methS, hm]
      simp [hwm, hm]
      refine ⟨CallK.use (modes_calls _ _) ?_, CallK.use (modes_calls _ _) ?_⟩ <;> simp [hwm, hm, modeL]
      all_goals
        refine MCall.use moving_m (w := work s l ask rest) hwok (by simp) ?_
        rw [em]
        generalize methS s (work s l ask rest) = v at hva hvr ⊢
        simp
        by_cases h4 : v.s.mode = 4
        · rcases Bool.eq_false_or_eq_true rest with hr | hr
          · simp [h4, hr]
            refine ⟨CallK.use (error_calls (v.set { v.s with t0 := 0, t1 := 0 }) _ _ _ (by simp [Wk.set, h4])) ?_, CallK.use (error_calls (v.set { v.s with t0 := 0, t1 := 0 }) _ _ _ (by simp [Wk.set, h4])) ?_⟩ <;> simp
            all_goals exact endA_eq (by simp [finS, errS, h4, hr, Wk.set, hva]) (by simp)
          · simp [h4, hr]
            refine ⟨CallK.use (error_calls v _ _ _ (by simp)) ?_, CallK.use (error_calls v _ _ _ (by simp)) ?_⟩ <;> simp
            all_goals exact endA_eq (by simp [finS, errS, h4, hr, hva]) (by simp)
        · simp [ne_beq h4]
          refine ⟨CallK.use (error_calls v _ _ _ (by simp)) ?_, CallK.use (error_calls v _ _ _ (by simp)) ?_⟩ <;> simp
          all_goals exact endA_eq (by simp [finS, errS, h4, hva]) (by simp)
    · have em : stoppingW (work s l ask rest) = methS s (work s l ask rest) := by simp [methS, hm]
      simp [hwm, hm]
      refine ⟨CallK.use (modes_calls _ _) ?_, CallK.use (modes_calls _ _) ?_⟩ <;> simp [hwm, hm, modeL]
      all_goals
        refine MCall.use stopping_m (w := work s l ask rest) hwok (by simp) ?_
        rw [em]
        generalize methS s (work s l ask rest) = v at hva hvr ⊢
        simp
        by_cases h4 : v.s.mode = 4
        · rcases Bool.eq_false_or_eq_true rest with hr | hr
          · simp [h4, hr]
            refine ⟨CallK.use (error_calls (v.set { v.s with t0 := 0, t1 := 0 }) _ _ _ (by simp [Wk.set, h4])) ?_, CallK.use (error_calls (v.set { v.s with t0 := 0, t1 := 0 }) _ _ _ (by simp [Wk.set, h4])) ?_⟩ <;> simp
            all_goals exact endA_eq (by simp [finS, errS, h4, hr, Wk.set, hva]) (by simp)
          · simp [h4, hr]
            refine ⟨CallK.use (error_calls v _ _ _ (by simp)) ?_, CallK.use (error_calls v _ _ _ (by simp)) ?_⟩ <;> simp
            all_goals exact endA_eq (by simp [finS, errS, h4, hr, hva]) (by simp)
        · simp [ne_beq h4]
          refine ⟨CallK.use (error_calls v _ _ _ (by simp)) ?_, CallK.use (error_calls v _ _ _ (by simp)) ?_⟩ <;> simp
          all_goals exact endA_eq (by simp [finS, errS, h4, hva]) (by simp)
    · have em : stoppedW (work s l ask rest) = methS s (work s l ask rest) := by simp [methS, hm]
      simp [hwm, hm]
      refine ⟨CallK.use (modes_calls _ _) ?_, CallK.use (modes_calls _ _) ?_⟩ <;> simp [hwm, hm, modeL]
      all_goals
        refine MCall.use stopped_m (w := work s l ask rest) hwok (by simp) ?_
        rw [em]
        generalize methS s (work s l ask rest) = v at hva hvr ⊢
        simp
        by_cases h4 : v.s.mode = 4
        · rcases Bool.eq_false_or_eq_true rest with hr | hr
          · simp [h4, hr]
            refine ⟨CallK.use (error_calls (v.set { v.s with t0 := 0, t1 := 0 }) _ _ _ (by simp [Wk.set, h4])) ?_, CallK.use (error_calls (v.set { v.s with t0 := 0, t1 := 0 }) _ _ _ (by simp [Wk.set, h4])) ?_⟩ <;> simp
            all_goals exact endA_eq (by simp [finS, errS, h4, hr, Wk.set, hva]) (by simp)
          · simp [h4, hr]
            refine ⟨CallK.use (error_calls v _ _ _ (by simp)) ?_, CallK.use (error_calls v _ _ _ (by simp)) ?_⟩ <;> simp
            all_goals exact endA_eq (by simp [finS, errS, h4, hr, hva]) (by simp)
        · simp [ne_beq h4]
          refine ⟨CallK.use (error_calls v _ _ _ (by simp)) ?_, CallK.use (error_calls v _ _ _ (by simp)) ?_⟩ <;> simp
          all_goals exact endA_eq (by simp [finS, errS, h4, hva]) (by simp)
    · have em : holdingW (work s l ask rest) = methS s (work s l ask rest) := by simp [methS, hm]
      simp [hwm, hm]
      refine ⟨CallK.use (modes_calls _ _) ?_, CallK.use (modes_calls _ _) ?_⟩ <;> simp [hwm, hm, modeL]
      all_goals
        refine MCall.use holding_m (w := work s l ask rest) hwok (by simp) ?_
        rw [em]
        generalize methS s (work s l ask rest) = v at hva hvr ⊢
        simp
        by_cases h4 : v.s.mode = 4
        · rcases Bool.eq_false_or_eq_true rest with hr | hr
          · simp [h4, hr]
            refine ⟨CallK.use (error_calls (v.set { v.s with t0 := 0, t1 := 0 }) _ _ _ (by simp [Wk.set, h4])) ?_, CallK.use (error_calls (v.set { v.s with t0 := 0, t1 := 0 }) _ _ _ (by simp [Wk.set, h4])) ?_⟩ <;> simp
            all_goals exact endA_eq (by simp [finS, errS, h4, hr, Wk.set, hva]) (by simp)
          · simp [h4, hr]
            refine ⟨CallK.use (error_calls v _ _ _ (by simp)) ?_, CallK.use (error_calls v _ _ _ (by simp)) ?_⟩ <;> simp
            all_goals exact endA_eq (by simp [finS, errS, h4, hr, hva]) (by simp)
        · simp [ne_beq h4]
          refine ⟨CallK.use (error_calls v _ _ _ (by simp)) ?_, CallK.use (error_calls v _ _ _ (by simp)) ?_⟩ <;> simp
          all_goals exact endA_eq (by simp [finS, errS, h4, hva]) (by simp)
  · simp [ne_beq ha2, ne_beq ha3]
    rw [show wl s l ask rest (worstOf l l.length) = (work s l ask rest).cells by simp [work, dem, ha2, ha3, vmin, tickS]]
    rcases hm5 with hm | hm | hm | hm | hm
    · have em : idleW (work s l ask rest) = methS s (work s l ask rest) := by simp [methS, hm]
      simp [hwm, hm]
      refine ⟨CallK.use (modes_calls _ _) ?_, CallK.use (modes_calls _ _) ?_⟩ <;> simp [hwm, hm, modeL]
      all_goals
        refine MCall.use idle_m (w := work s l ask rest) hwok (by simp) ?_
        rw [em]
        generalize methS s (work s l ask rest) = v at hva hvr ⊢
        simp
        by_cases h4 : v.s.mode = 4
        · rcases Bool.eq_false_or_eq_true rest with hr | hr
          · simp [h4, hr]
            refine ⟨CallK.use (error_calls (v.set { v.s with t0 := 0, t1 := 0 }) _ _ _ (by simp [Wk.set, h4])) ?_, CallK.use (error_calls (v.set { v.s with t0 := 0, t1 := 0 }) _ _ _ (by simp [Wk.set, h4])) ?_⟩ <;> simp
            all_goals exact endA_eq (by simp [finS, errS, h4, hr, Wk.set, hva]) (by simp)
          · simp [h4, hr]
            refine ⟨CallK.use (error_calls v _ _ _ (by simp)) ?_, CallK.use (error_calls v _ _ _ (by simp)) ?_⟩ <;> simp
            all_goals exact endA_eq (by simp [finS, errS, h4, hr, hva]) (by simp)
        · simp [ne_beq h4]
          refine ⟨CallK.use (error_calls v _ _ _ (by simp)) ?_, CallK.use (error_calls v _ _ _ (by simp)) ?_⟩ <;> simp
          all_goals exact endA_eq (by simp [finS, errS, h4, hva]) (by simp)
    · have em : movingW (work s l ask rest) = methS s (work s l ask rest) := by simp [methS, hm]
      simp [hwm, hm]
      refine ⟨CallK.use (modes_calls _ _) ?_, CallK.use (modes_calls _ _) ?_⟩ <;> simp [hwm, hm, modeL]
      all_goals
        refine MCall.use moving_m (w := work s l ask rest) hwok (by simp) ?_
        rw [em]
        generalize methS s (work s l ask rest) = v at hva hvr ⊢
        simp
        by_cases h4 : v.s.mode = 4
        · rcases Bool.eq_false_or_eq_true rest with hr | hr
          · simp [h4, hr]
            refine ⟨CallK.use (error_calls (v.set { v.s with t0 := 0, t1 := 0 }) _ _ _ (by simp [Wk.set, h4])) ?_, CallK.use (error_calls (v.set { v.s with t0 := 0, t1 := 0 }) _ _ _ (by simp [Wk.set, h4])) ?_⟩ <;> simp
            all_goals exact endA_eq (by simp [finS, errS, h4, hr, Wk.set, hva]) (by simp)
          · simp [h4, hr]
            refine ⟨CallK.use (error_calls v _ _ _ (by simp)) ?_, CallK.use (error_calls v _ _ _ (by simp)) ?_⟩ <;> simp
            all_goals exact endA_eq (by simp [finS, errS, h4, hr, hva]) (by simp)
        · simp [ne_beq h4]
          refine ⟨CallK.use (error_calls v _ _ _ (by simp)) ?_, CallK.use (error_calls v _ _ _ (by simp)) ?_⟩ <;> simp
          all_goals exact endA_eq (by simp [finS, errS, h4, hva]) (by simp)
    · have em : stoppingW (work s l ask rest) = methS s (work s l ask rest) := by simp [methS, hm]
      simp [hwm, hm]
      refine ⟨CallK.use (modes_calls _ _) ?_, CallK.use (modes_calls _ _) ?_⟩ <;> simp [hwm, hm, modeL]
      all_goals
        refine MCall.use stopping_m (w := work s l ask rest) hwok (by simp) ?_
        rw [em]
        generalize methS s (work s l ask rest) = v at hva hvr ⊢
        simp
        by_cases h4 : v.s.mode = 4
        · rcases Bool.eq_false_or_eq_true rest with hr | hr
          · simp [h4, hr]
            refine ⟨CallK.use (error_calls (v.set { v.s with t0 := 0, t1 := 0 }) _ _ _ (by simp [Wk.set, h4])) ?_, CallK.use (error_calls (v.set { v.s with t0 := 0, t1 := 0 }) _ _ _ (by simp [Wk.set, h4])) ?_⟩ <;> simp
            all_goals exact endA_eq (by simp [finS, errS, h4, hr, Wk.set, hva]) (by simp)
          · simp [h4, hr]
            refine ⟨CallK.use (error_calls v _ _ _ (by simp)) ?_, CallK.use (error_calls v _ _ _ (by simp)) ?_⟩ <;> simp
            all_goals exact endA_eq (by simp [finS, errS, h4, hr, hva]) (by simp)
        · simp [ne_beq h4]
          refine ⟨CallK.use (error_calls v _ _ _ (by simp)) ?_, CallK.use (error_calls v _ _ _ (by simp)) ?_⟩ <;> simp
          all_goals exact endA_eq (by simp [finS, errS, h4, hva]) (by simp)
    · have em : stoppedW (work s l ask rest) = methS s (work s l ask rest) := by simp [methS, hm]
      simp [hwm, hm]
      refine ⟨CallK.use (modes_calls _ _) ?_, CallK.use (modes_calls _ _) ?_⟩ <;> simp [hwm, hm, modeL]
      all_goals
        refine MCall.use stopped_m (w := work s l ask rest) hwok (by simp) ?_
        rw [em]
        generalize methS s (work s l ask rest) = v at hva hvr ⊢
        simp
        by_cases h4 : v.s.mode = 4
        · rcases Bool.eq_false_or_eq_true rest with hr | hr
          · simp [h4, hr]
            refine ⟨CallK.use (error_calls (v.set { v.s with t0 := 0, t1 := 0 }) _ _ _ (by simp [Wk.set, h4])) ?_, CallK.use (error_calls (v.set { v.s with t0 := 0, t1 := 0 }) _ _ _ (by simp [Wk.set, h4])) ?_⟩ <;> simp
            all_goals exact endA_eq (by simp [finS, errS, h4, hr, Wk.set, hva]) (by simp)
          · simp [h4, hr]
            refine ⟨CallK.use (error_calls v _ _ _ (by simp)) ?_, CallK.use (error_calls v _ _ _ (by simp)) ?_⟩ <;> simp
            all_goals exact endA_eq (by simp [finS, errS, h4, hr, hva]) (by simp)
        · simp [ne_beq h4]
          refine ⟨CallK.use (error_calls v _ _ _ (by simp)) ?_, CallK.use (error_calls v _ _ _ (by simp)) ?_⟩ <;> simp
          all_goals exact endA_eq (by simp [finS, errS, h4, hva]) (by simp)
    · have em : holdingW (work s l ask rest) = methS s (work s l ask rest) := by simp [methS, hm]
      simp [hwm, hm]
      refine ⟨CallK.use (modes_calls _ _) ?_, CallK.use (modes_calls _ _) ?_⟩ <;> simp [hwm, hm, modeL]
      all_goals
        refine MCall.use holding_m (w := work s l ask rest) hwok (by simp) ?_
        rw [em]
        generalize methS s (work s l ask rest) = v at hva hvr ⊢
        simp
        by_cases h4 : v.s.mode = 4
        · rcases Bool.eq_false_or_eq_true rest with hr | hr
          · simp [h4, hr]
            refine ⟨CallK.use (error_calls (v.set { v.s with t0 := 0, t1 := 0 }) _ _ _ (by simp [Wk.set, h4])) ?_, CallK.use (error_calls (v.set { v.s with t0 := 0, t1 := 0 }) _ _ _ (by simp [Wk.set, h4])) ?_⟩ <;> simp
            all_goals exact endA_eq (by simp [finS, errS, h4, hr, Wk.set, hva]) (by simp)
          · simp [h4, hr]
            refine ⟨CallK.use (error_calls v _ _ _ (by simp)) ?_, CallK.use (error_calls v _ _ _ (by simp)) ?_⟩ <;> simp
            all_goals exact endA_eq (by simp [finS, errS, h4, hr, hva]) (by simp)
        · simp [ne_beq h4]
          refine ⟨CallK.use (error_calls v _ _ _ (by simp)) ?_, CallK.use (error_calls v _ _ _ (by simp)) ?_⟩ <;> simp
          all_goals exact endA_eq (by simp [finS, errS, h4, hva]) (by simp)
end Go.Proofs
