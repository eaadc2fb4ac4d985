/- Expansion: walks of the reference's statements, and of its playing. -/
import Derived.Test.YtnanajdckbfamaaGreatDoorX15
set_option linter.unusedVariables false
set_option linter.unusedSimpArgs false
set_option maxRecDepth 100000
namespace Go.Proofs
open Go Go.Abs
attribute [local irreducible] wpc aSeq awAny endA guardK condK CallK callT aPlan onlyL takeL aeffK takeE loopG bodyA thenA inBlockA planK roundG assignG bodyI endI YieldK unrollG endP
theorem plain13_pure (x : Sb) (kids : AV) (w : Ws) (c : Ce) (hp : preS w c) (hx : SbOk x c) : Pure Tryz.prog 56 [c.av, .agg (x.cells kids), w.av] (stAV (plainR x w c)) := by
  have ha := hx.arm
  have hk := hx.kind
  refine pure_val fun σ ns _ => ?_; refine acalls_of_wpc Tryz.mixed Tryz.dr56 Tryz.func56 rfl (Tryz.fit56 _ rfl) Tryz.en56 (fun hσ => ?_); simp [Tryz.ntmps56]
  refine condK_cases (fun h1 => ?_) (fun h1 => ?_) <;> simp [h1] <;> (try simp at h1)
  · rcases ha with ha | ha <;> simp [ha]
    · first | refine Pure.use_le (gone_pure 0 (.inl rfl) x.to0) ?_ | refine callT_le (gone_pure 0 (.inl rfl) x.to0) ?_
      simp
      exact end_sl (l := [goStep 0 x.to0]) (by simp [plainR, h1, ha]) (by simp [spcs, goStep, j0']) (by simp) AVLe.le
    · first | refine Pure.use_le (gone_pure 1 (.inr rfl) x.to1) ?_ | refine callT_le (gone_pure 1 (.inr rfl) x.to1) ?_
      simp
      exact end_sl (l := [goStep 1 x.to1]) (by simp [plainR, h1, ha]) (by simp [spcs, goStep, j0']) (by simp) AVLe.le
  refine condK_cases (fun h2 => ?_) (fun h2 => ?_) <;> simp [h2] <;> (try simp at h2)
  · rcases ha with ha | ha <;> simp [ha]
    · first | refine Pure.use_le (gone_pure 0 (.inl rfl) c.h0) ?_ | refine callT_le (gone_pure 0 (.inl rfl) c.h0) ?_
      simp
      exact end_sl (l := [goStep 0 c.h0]) (by simp [plainR, h2, ha]) (by simp [spcs, goStep, j0']) (by simp) AVLe.le
    · first | refine Pure.use_le (gone_pure 1 (.inr rfl) c.h1) ?_ | refine callT_le (gone_pure 1 (.inr rfl) c.h1) ?_
      simp
      exact end_sl (l := [goStep 1 c.h1]) (by simp [plainR, h2, ha]) (by simp [spcs, goStep, j0']) (by simp) AVLe.le
  refine condK_cases (fun h3 => ?_) (fun h3 => ?_) <;> simp [h3] <;> (try simp at h3)
  · first | refine Pure.use_le (pick13_pure x kids w c hp ha (hx.part h3)) ?_ | refine callT_le (pick13_pure x kids w c hp ha (hx.part h3)) ?_
    simp
    exact end_st (p := plainR x w c) (by rw [show plainR x w c = pickR x w c by simp [plainR, h3]]; exact .refl _) (by simp)
  have hput : x.kind = 4 ∨ x.kind = 5 → Pure Tryz.prog 84 [c.av, .agg (x.cells kids), w.av] (stAV (putR x w c)) := fun h => put13_pure x kids w c hp ha h (hx.place h)
  have hpr : x.kind = 4 ∨ x.kind = 5 → plainR x w c = putR x w c := fun h => by simp [plainR, h1, h2, h3, h]
  refine condK_cases (fun h4 => ?_) (fun h4 => ?_) <;> simp [h4] <;> (try simp at h4)
  · first | refine Pure.use_le (hput (.inl h4)) ?_ | refine callT_le (hput (.inl h4)) ?_
    simp
    exact end_st (p := plainR x w c) (by rw [hpr (.inl h4)]; exact .refl _) (by simp)
  refine condK_cases (fun h5 => ?_) (fun h5 => ?_) <;> simp [h5] <;> (try simp at h5)
  · first | refine Pure.use_le (hput (.inr h5)) ?_ | refine callT_le (hput (.inr h5)) ?_
    simp
    exact end_st (p := plainR x w c) (by rw [hpr (.inr h5)]; exact .refl _) (by simp)
  refine condK_cases (fun h6 => ?_) (fun h6 => ?_) <;> simp [h6] <;> (try simp at h6)
  · exact end_sl (l := [⟨5, 0, 0, 0, x.n, j0', j0'⟩]) (by simp [plainR, h6]) (by simp [spcs, j0']) (by simp) AVLe.le
  · exact end_sl (l := [⟨2, 0, 0, 0, 0, x.to0, x.to1⟩]) (by simp [plainR, h1, h2, h3, h4, h5, h6]) (by simp [spcs, j0']) (by simp) AVLe.le
end Go.Proofs
