/- Walks: the supervisor's methods, and its tick. -/
import Derived.Test.YtbnmdfappoeipaaS7
set_option linter.unusedVariables false
set_option linter.unusedSimpArgs false
set_option maxRecDepth 100000
namespace Go.Proofs
open Go Go.Abs
attribute [local irreducible] wpc aSeq awAny endA guardK condK CallK callT aPlan onlyL takeL aeffK takeE loopG bodyA thenA inBlockA planK roundG assignG bodyI endI YieldK unrollG
theorem endMw {σ : Store} {ns n : Nm} {o2 o' : AObj} (hσ : ∀ m, m.under ns = true → σ m = none) (hw : VarWk o2 o') : endA (some (.tup [])) (σ.up n o2) [] σ ns (fun e σ' => e = .ret (.tup []) ∧ σ' = σ.up n o') :=
  endA_gen (.refl _) (StWk.weak (StWk.both (.refl _) hw)) ⟨rfl, rfl⟩
def stopW (w : Wk) : Wk := w.set { w.s with ca := Proofs.blame w.s.ca w.l 3, mode := 3, cat := w.call, left := 60 }
def worsenW (w : Wk) : Wk := w.set { w.s with ca := Proofs.blame w.s.ca w.l w.s.cat, cat := w.call }
def idleW (w : Wk) : Wk := if w.call < 3 then (if w.rest = true then (stopW w).set (halt (stopW w).s) else stopW w) else if w.ask = 1 then w.set { w.s with mode := 2 } else w
def movingW (w : Wk) : Wk := if w.call < 3 then stopW w else w
theorem idle_m : MCall 34 [] idleW WOk := by
  intro w σ ns n hw hn
  refine acalls_of_wpc Try.mixed Try.dr34 Try.func34 rfl (Try.fit34 _ rfl) Try.en34 (fun hσ => ?_); simp [Try.ntmps34]
  simp [hn]
  by_cases h : w.call < 3
  · simp [h]
    refine MCall.use (g := stopW) stop_m hw (by simp [hn]) ?_
    simp
    rcases Bool.eq_false_or_eq_true w.rest with hr | hr
    · simp [hr, stopW, Wk.set]
      refine MCall.use end_pure (w := stopW w) trivial (by simp [stopW, Wk.set, hr]) ?_
      simp
      exact endM1 hσ hn (by simp [idleW, h, hr])
    · simp [hr, stopW, Wk.set]
      exact endM1 hσ hn (by simp [idleW, h, hr, stopW, Wk.set])
  · simp [h, hn]
    by_cases ha : w.ask = 1
    · simp [ha, hn]
      exact endM1 hσ hn (by simp [idleW, h, ha, Wk.set])
    · simp [ne_beq ha]
      exact endM0 hσ hn (by simp [idleW, h, ha])
theorem moving_m : MCall 35 [] movingW WOk := by
  intro w σ ns n hw hn
  refine acalls_of_wpc Try.mixed Try.dr35 Try.func35 rfl (Try.fit35 _ rfl) Try.en35 (fun hσ => ?_); simp [Try.ntmps35]
  simp [hn]
  by_cases h : w.call < 3
  · simp [h]
    refine MCall.use (g := stopW) stop_m hw (by simp [hn]) ?_
    simp
    exact endM1 hσ hn (by simp [movingW, h])
  · simp [h]
    exact endM0 hσ hn (by simp [movingW, h])
def slowW (w : Wk) : Wk := w.set { w.s with left := if 0 < w.s.left then w.s.left - 1 else w.s.left }
def worseW (w : Wk) : Wk := if w.call < w.s.cat then worsenW w else w
def stoppingW (w : Wk) : Wk := if w.rest = true then (worseW (slowW w)).set (halt (worseW (slowW w)).s) else (worseW (slowW w)).set { (worseW (slowW w)).s with cat := if (worseW (slowW w)).s.left = 0 then 0 else (worseW (slowW w)).s.cat }
theorem stopping_m : MCall 36 [] stoppingW WOk := by
  intro w σ ns n hw hn
  have hb := hw.1.left
  refine acalls_of_wpc Try.mixed Try.dr36 Try.func36 rfl (Try.fit36 _ rfl) Try.en36 (fun hσ => ?_); simp [Try.ntmps36]
  simp [hn]
  have w1 : IntKind.wrap .i64 (w.s.left - 1) = w.s.left - 1 := wrap64 (by omega) (by omega)
  have hok : WOk (slowW w) := by
    refine ⟨⟨?_, hw.1.ca, hw.1.t0, hw.1.t1⟩, hw.2⟩
    simp only [slowW, Wk.set]; split <;> omega
  by_cases hl : 0 < w.s.left
  · simp [hl, hn, w1]
    have e1 : slowW w = w.set { w.s with left := w.s.left - 1 } := by simp [slowW, hl]
    by_cases hc : w.call < w.s.cat
    · simp [hc]
      refine MCall.use (g := worsenW) worsen_m (w := slowW w) hok (by rw [e1]; simp [Wk.set]) ?_
      have e2 : worsenW (slowW w) = worseW (slowW w) := by rw [worseW, if_pos (by rw [e1]; exact hc)]
      have er : (worseW (slowW w)).rest = w.rest := by rw [← e2]; rfl
      rw [e2]
      unfold stoppingW
      generalize worseW (slowW w) = v at *
      simp
      rcases Bool.eq_false_or_eq_true w.rest with hr | hr
      · simp [er, hr]
        refine MCall.use end_pure (w := v) trivial (by simp) ?_
        simp
        exact endM1 hσ hn (by simp)
      · simp [er, hr]
        by_cases h0 : v.s.left = 0
        · simp [h0]
          exact endM1 hσ hn (by simp [Wk.set, h0, er, hr])
        · simp [ne_beq h0]
          exact endM1 hσ hn (by simp [Wk.set, h0, er, hr])
    · simp [hc]
      have e2 : worseW (slowW w) = w.set { w.s with left := w.s.left - 1 } := by rw [worseW, if_neg (by rw [e1]; exact hc), e1]
      have er : (worseW (slowW w)).rest = w.rest := by rw [e2]; rfl
      have e3 : (AObj.var [AV.int .i64 w.s.mode, AV.int .i64 w.s.cat, AV.int .i64 (w.s.left - 1), AV.sl 4 (vcs w.s.ca) .unk, AV.int .i64 w.s.t0, AV.int .i64 w.s.t1, AV.sl 4 (vcs w.l) .unk, AV.int .i64 w.ask, AV.bool w.rest, AV.int .i64 w.call]) = .var (worseW (slowW w)).cells := by rw [e2]; rfl
      rw [e3]
      unfold stoppingW
      generalize worseW (slowW w) = v at *
      rcases Bool.eq_false_or_eq_true w.rest with hr | hr
      · simp [er, hr]
        refine MCall.use end_pure (w := v) trivial (by simp) ?_
        simp
        exact endM1 hσ hn (by simp)
      · simp [er, hr]
        by_cases h0 : v.s.left = 0
        · simp [h0]
          exact endM1 hσ hn (by simp [Wk.set, h0, er, hr])
        · simp [ne_beq h0]
          exact endM1 hσ hn (by simp [Wk.set, h0, er, hr])
  · simp [hl, hn]
    have e1 : slowW w = w := by
      obtain ⟨⟨_, _, _, _, _, _⟩, _, _, _, _⟩ := w
      simp only at hl
      simp [slowW, hl, Wk.set]
    rw [e1] at hok
    by_cases hc : w.call < w.s.cat
    · simp [hc]
      refine MCall.use (g := worsenW) worsen_m (w := w) hok (by simp [hn]) ?_
      have e2 : worsenW w = worseW (slowW w) := by rw [e1, worseW, if_pos hc]
      have er : (worseW (slowW w)).rest = w.rest := by rw [← e2]; rfl
      rw [e2]
      unfold stoppingW
      generalize worseW (slowW w) = v at *
      simp
      rcases Bool.eq_false_or_eq_true w.rest with hr | hr
      · simp [er, hr]
        refine MCall.use end_pure (w := v) trivial (by simp) ?_
        simp
        exact endM1 hσ hn (by simp)
      · simp [er, hr]
        by_cases h0 : v.s.left = 0
        · simp [h0]
          exact endM1 hσ hn (by simp [Wk.set, h0, er, hr])
        · simp [ne_beq h0]
          exact endM1 hσ hn (by simp [Wk.set, h0, er, hr])
    · simp [hc, hn]
      have e2 : worseW (slowW w) = w := by rw [e1, worseW, if_neg hc]
      unfold stoppingW
      rw [e2]
      rcases Bool.eq_false_or_eq_true w.rest with hr | hr
      · simp [hr]
        refine MCall.use end_pure (w := w) trivial (by simp [hn]) ?_
        simp
        exact endM1 hσ hn (by simp)
      · simp [hr, hn]
        by_cases h0 : w.s.left = 0
        · simp [h0, hn]
          exact endM1 hσ hn (by simp [Wk.set, h0, hr])
        · simp [ne_beq h0]
          exact endM0 hσ hn (by simp [Wk.set, h0, hr])
def stoppedW (w : Wk) : Wk := if w.ask = 4 ∧ w.rest = true ∧ w.call = 3 then w.set ⟨1, 0, 0, [], w.s.t0, w.s.t1⟩ else w
theorem stopped_m : MCall 37 [] stoppedW WOk := by
  intro w σ ns n hw hn
  refine acalls_of_wpc Try.mixed Try.dr37 Try.func37 rfl (Try.fit37 _ rfl) Try.en37 (fun hσ => ?_); simp [Try.ntmps37]
  simp [hn]
  by_cases ha : w.ask = 4
  · rcases Bool.eq_false_or_eq_true w.rest with hr | hr
    · by_cases hc : w.call = 3
      · simp [ha, hr, hc, hn]
        refine endMw hσ (.inr ⟨_, _, rfl, rfl, ?_⟩)
        rw [show stoppedW w = w.set ⟨1, 0, 0, [], w.s.t0, w.s.t1⟩ from if_pos ⟨ha, hr, hc⟩]
        simp only [Wk.set, ha, hr, hc]
        exact .cons (.refl _) (.cons (.refl _) (.cons (.refl _) (.cons .unk0 (.refl _))))
      · simp [ha, hr, ne_beq hc, hn]
        exact endM0 hσ hn (by simp [stoppedW, hc])
    · simp [ha, hr, hn]
      exact endM0 hσ hn (by simp [stoppedW, hr])
  · simp [ne_beq ha, hn]
    exact endM0 hσ hn (by simp [stoppedW, ha])
def holdingW (w : Wk) : Wk := if w.call < 2 then (worsenW w).set { (worsenW w).s with mode := 4 } else stoppedW w
theorem holding_m : MCall 38 [] holdingW WOk := by
  intro w σ ns n hw hn
  refine acalls_of_wpc Try.mixed Try.dr38 Try.func38 rfl (Try.fit38 _ rfl) Try.en38 (fun hσ => ?_); simp [Try.ntmps38]
  simp [hn]
  by_cases h : w.call < 2
  · simp [h]
    refine MCall.use (g := worsenW) worsen_m hw (by simp [hn]) ?_
    simp
    exact endM1 hσ hn (by simp [holdingW, h, worsenW, Wk.set])
  · simp [h]
    refine MCall.use stopped_m hw (by simp [hn]) ?_
    simp
    exact endM1 hσ hn (by simp [holdingW, h])
end Go.Proofs
