/- Expansion: the walk of ExpandMatchesReference. -/
import Derived.Test.YtnanajdckbfamaaGreatDoorX22
import Derived.Test.YtnanajdckbfamaaGreatDoorY3
set_option linter.unusedVariables false
set_option linter.unusedSimpArgs false
set_option maxRecDepth 100000
namespace Go.Proofs
open Go Go.Abs
attribute [local irreducible] wpc aSeq awAny endA guardK condK CallK callT aPlan onlyL takeL aeffK takeE loopG bodyA thenA inBlockA planK roundG assignG bodyI endI YieldK unrollG endP
theorem great13_right {c : Ce} {l : List Wd} (h : great13 c l = false) : RightC c ∧ l.length ≤ 40 := by
  unfold great13 at h
  simp at h
  exact ⟨of_decide_eq_true h.1.2, h.2⟩
set_option maxHeartbeats 4000000 in
theorem matches_pure (c : Ce) (l : List Wd) (hok : ∀ x ∈ l, WdOk x) (raw : Ws) (s : Sp) :
    PureG 3 [c.av, .sl 11 (wdcs l) .unk, raw.av, s.av] (.bool true) := by
  refine pureG_val fun σ ns gl go _ hgo hg => ?_
  refine acalls_of_wpc Tryz.mixed Tryz.dr3 Tryz.func3 rfl (Tryz.fit3 _ rfl) Tryz.en3 (fun hσ => ?_); simp [Tryz.ntmps3]
  have hgg := ne_own hσ hg
  have hg2 := own_ne hσ hg
  refine head13_pure.use (gl := gl) hgo (by simp [hg, hgg, hg2]) ?_
  simp
  first | refine Pure.use_le (Great13_pure c l) ?_ | refine callT_le (Great13_pure c l) ?_
  simp
  refine guardK_cases (fun h1 => ?_) (fun h1 => ?_) <;> simp [h1]
  · exact endA_eq rfl (by simp)
  obtain ⟨hc, h40⟩ := great13_right h1
  refine condK_cases (fun h2 => ?_) (fun h2 => ?_) <;> simp [h2]
  · exact endA_eq rfl (by simp)
  have hpre := first_pre hc
  have hpl : c.parts.length ≤ 1000000 := by have := hc.parts8; omega
  have hl : l.length ≤ 1000000000 := by omega
  have hr : raw.wher.length ≤ 1000000000 := by simp at h2; omega
  have hin := smsOf_in hc l
  have hsl := smsOf_len c l
  have hall := playT_all (xs := smsOf c l) (l := []) hpre.1 (by simp)
  have r1 := steps_pureG c (smsOf c l) (first c) (fun x hx => (hin x hx).ok) (by omega) hpre
  have r2 := Steps13_pure c (smsOf c l) (first c) hin (by omega) hpre
  generalize playT c (smsOf c l) (first c) [] = p at *
  obtain ⟨⟨w', ss⟩, e, k⟩ := p
  dsimp only at hall r1 r2
  first | refine Pure.use_le (Stmts_pure c hc l hl hok) ?_ | refine callT_le (Stmts_pure c hc l hl hok) ?_
  simp
  first | refine Pure.use_le (First9_pure c hpl) ?_ | refine callT_le (First9_pure c hpl) ?_
  simp
  apply cut_
  · intro key
    repeat' apply And.intro
    all_goals
      refine (r1.weaken ?_).use (gl := gl) hgo (by simp [hg, hgg, hg2]) ?_
      · (repeat' first | exact AVsle.nil | refine AVsle.cons (AVle.any _) ?_ | refine AVsle.cons (AVle.refl _) ?_ | refine AVsle.cons AVLe.le ?_)
      simp
      exact key
  first | refine Pure.use_le (First9_pure c hpl) ?_ | refine callT_le (First9_pure c hpl) ?_
  simp
  first | refine Pure.use_le (r2) ?_ | refine callT_le (r2) ?_
  simp
  first | refine Pure.use_le (SameSteps13_pure ss ss (by omega)) ?_ | refine callT_le (SameSteps13_pure ss ss (by omega)) ?_
  simp
  first | refine Pure.use_le (First9_pure c hpl) ?_ | refine callT_le (First9_pure c hpl) ?_
  simp
  first | refine Pure.use_le (EqualStates_pure raw (first c) hr) ?_ | refine callT_le (EqualStates_pure raw (first c) hr) ?_
  simp
  first | refine Pure.use_le (First9_pure c hpl) ?_ | refine callT_le (First9_pure c hpl) ?_
  simp
  first | refine Pure.use_le (Same13_pure raw (first c) hr) ?_ | refine callT_le (Same13_pure raw (first c) hr) ?_
  simp
  first | refine Pure.use_le (First9_pure c hpl) ?_ | refine callT_le (First9_pure c hpl) ?_
  simp
  first | refine Pure.use_le (Behind13_pure c (first c) ss hpre (by omega)) ?_ | refine callT_le (Behind13_pure c (first c) ss hpre (by omega)) ?_
  have hbs := behind_st (l := ss) hpre.1
  generalize behind c (first c) ss = wb at *
  simp
  first | refine Pure.use_le (Right13_pure c raw hc) ?_ | refine callT_le (Right13_pure c raw hc) ?_
  simp
  refine condK_cases (fun h5 => ?_) (fun h5 => ?_) <;> simp [h5]
  · have hW : StOk raw c := (of_decide_eq_true h5)
    have a1 := apply_pureG c raw s (hc.wok hW)
    refine (a1.weaken ?_).use (gl := gl) hgo (by simp [hg, hgg, hg2]) ?_
    · (repeat' first | exact AVsle.nil | refine AVsle.cons (AVle.any _) ?_ | refine AVsle.cons (AVle.refl _) ?_ | refine AVsle.cons AVLe.le ?_)
    simp
    first | refine Pure.use_le (Do13_pure raw c s (hc.wok hW) ⟨hW.h0.1, hW.h1.1⟩) ?_ | refine callT_le (Do13_pure raw c s (hc.wok hW) ⟨hW.h0.1, hW.h1.1⟩) ?_
    have hx := refR_st (s := s) hW
    generalize refR raw (doE s raw c) = y at *
    simp
    first | refine Pure.use_le (Same13_pure y.1 y.1 (by have := hx.len; have := hc.parts8; omega)) ?_ | refine callT_le (Same13_pure y.1 y.1 (by have := hx.len; have := hc.parts8; omega)) ?_
    simp [sameW]
    exact endA_eq rfl (by simp)
  · have hW : StOk wb c := hbs
    have a1 := apply_pureG c wb s (hc.wok hW)
    refine (a1.weaken ?_).use (gl := gl) hgo (by simp [hg, hgg, hg2]) ?_
    · (repeat' first | exact AVsle.nil | refine AVsle.cons (AVle.any _) ?_ | refine AVsle.cons (AVle.refl _) ?_ | refine AVsle.cons AVLe.le ?_)
    simp
    first | refine Pure.use_le (Do13_pure wb c s (hc.wok hW) ⟨hW.h0.1, hW.h1.1⟩) ?_ | refine callT_le (Do13_pure wb c s (hc.wok hW) ⟨hW.h0.1, hW.h1.1⟩) ?_
    have hx := refR_st (s := s) hW
    generalize refR wb (doE s wb c) = y at *
    simp
    first | refine Pure.use_le (Same13_pure y.1 y.1 (by have := hx.len; have := hc.parts8; omega)) ?_ | refine callT_le (Same13_pure y.1 y.1 (by have := hx.len; have := hc.parts8; omega)) ?_
    simp [sameW]
    exact endA_eq rfl (by simp)
end Go.Proofs
