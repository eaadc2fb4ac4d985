/- Expansion: the walk of the reference's steps of a program. -/
import Derived.Test.YtnanajdckbfamaaGreatDoorX17
set_option linter.unusedVariables false
set_option linter.unusedSimpArgs false
set_option maxRecDepth 100000
namespace Go.Proofs
open Go Go.Abs
attribute [local irreducible] wpc aSeq awAny endA guardK condK CallK callT aPlan onlyL takeL aeffK takeE loopG bodyA thenA inBlockA planK roundG assignG bodyI endI YieldK unrollG endP
theorem play13_all (c : Ce) : ∀ n : Nat, n ≤ 4 → Play13C c n
  | 0, h => play13_step c 0 h fun m e => by cases e
  | n + 1, h => play13_step c (n + 1) h fun m e => by injection e with e; subst e; exact play13_all c n (by omega)
theorem Steps13_pure (c : Ce) (xs : List Sm) (w : Ws) (hxs : ∀ x ∈ xs, SmIn x c) (hlen : xs.length ≤ 1000000) (hp : preS w c) : Pure Tryz.prog 14 [c.av, .sl 13 (smcs xs) .unk, w.av] (.tup [.sl 11 (spcs (playT c xs w []).1.2) .unk, .agg [.int .i64 (playT c xs w []).2.1, .int .i64 (playT c xs w []).2.2]]) := by
  refine pure_val fun σ ns _ => ?_; refine acalls_of_wpc Tryz.mixed Tryz.dr14 Tryz.func14 rfl (Tryz.fit14 _ rfl) Tryz.en14 (fun hσ => ?_); simp [Tryz.ntmps14]
  have hc := fun (B : Store) (ns : Nm) => play13_all c 4 (by omega) xs w [] none hxs (by simp) hlen hp (by simp) (by simp) B ns (by simp)
  generalize playT c xs w [] = rr at *
  refine P13.use (t0 := none) (B := ((σ.up ((ns.sub 0).sub 0) (.var c.cells)).up ((ns.sub 0).sub 1) (.var w.cells)).up ((ns.sub 0).sub 3) (.var [.int .i64 0, .int .i64 0])) ((hc _ _).weaken ?_) (fun t' g1 g2 => ?_)
  · simp [gv_none]
    (repeat' first | exact AVsle.nil | refine AVsle.cons (AVle.any _) ?_ | refine AVsle.cons (AVle.refl _) ?_ | refine AVsle.cons AVLe.le ?_)
  have t1 : ∀ x, x.under ns = true → x.under ((ns.sub 1).sub 3) = false → ¬ t' = some x := fun x h1 h2 e => by
    rcases (g2 _ e).2 with h | h
    · cases h
    · rw [h2] at h; cases h
  have t2 : ∀ j k, ¬ (j = 1 ∧ k = 3) → ¬ t' = some ((ns.sub j).sub k) := fun j k hj e => by
    rcases (g2 _ e).2 with h | h
    · cases h
    · simp [Nm.under] at h; exact hj h
  simp [gs_up, t2]
  have hgu : ∀ m, t' = some m → m.under ns = true := fun m e => by
    rcases (g2 _ e).2 with h | h
    · cases h
    · exact Nm.under_trans h (by simp [Nm.under])
  have hle : AVle (gv 11 t' (spcs rr.1.2)) (.sl 11 (spcs rr.1.2) .unk) := by
    cases t' with
    | none => rw [g1 rfl]; exact AVle.unk
    | some m => exact AVle.unk
  refine endA_weak (AVle.tup (AVsle.cons hle (AVsle.cons (.refl _) AVsle.nil))) (StWeak.same ?_)
  simp [restoreS_gs hgu]
end Go.Proofs
