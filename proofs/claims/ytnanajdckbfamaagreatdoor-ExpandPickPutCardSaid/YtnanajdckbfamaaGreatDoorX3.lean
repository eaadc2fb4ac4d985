/- Expansion: the walk of a step's execution. -/
import Derived.Test.YtnanajdckbfamaaGreatDoorX2
set_option linter.unusedVariables false
set_option linter.unusedSimpArgs false
set_option maxRecDepth 100000
namespace Go.Proofs
open Go Go.Abs
attribute [local irreducible] wpc aSeq awAny endA guardK condK CallK callT aPlan onlyL takeL aeffK takeE loopG bodyA thenA inBlockA planK roundG assignG bodyI endI YieldK unrollG endP
theorem bne_f {a b : Int} (h : ¬ a = b) : (a == b) = false := by simp [h]
def stepL : List (AV × AV) := [(.int .i64 1, .fn (.func 89) [] []), (.int .i64 2, .fn (.func 90) [] []), (.int .i64 3, .fn (.func 91) [] []), (.int .i64 4, .fn (.func 92) [] []), (.int .i64 5, .fn (.func 93) [] [])]
theorem steps_calls (σ : Store) (ns : Nm) : ACalls Tryz.prog 59 [] σ ns fun e σ' => e = .ret (.map ((ns.sub 1).sub 0)) ∧ σ' = σ.up ((ns.sub 1).sub 0) (.map stepL) := by
  refine acalls_of_wpc Tryz.mixed Tryz.dr59 Tryz.func59 rfl (Tryz.fit59 _ rfl) Tryz.en59 (fun hσ => ?_); simp [Tryz.ntmps59]
  exact endA_intro (StWk.weak (.refl _)) ⟨rfl, rfl⟩
def doE (s : Sp) (w : Ws) (c : Ce) : Except Int Ws :=
  if ¬ (1 ≤ s.kind ∧ s.kind ≤ 5) ∨ ¬ (s.arm = 0 ∨ s.arm = 1) then .error 1 else
  if s.kind = 1 then doGo s w c else if s.kind = 2 then doBoth s w c else if s.kind = 3 then doTake s w c else if s.kind = 4 then doLeave s w c else doWait s w c
theorem do_do (s : Sp) : DoC 34 [s.av] (doE s) WOk := by
  rintro w c o σ ns n hw hn
  have hk : s.kind = 1 ∨ s.kind = 2 ∨ s.kind = 3 ∨ s.kind = 4 ∨ s.kind = 5 ∨ ¬ (1 ≤ s.kind ∧ s.kind ≤ 5) := by omega
  have ha : s.arm = 0 ∨ s.arm = 1 ∨ ¬ (s.arm = 0 ∨ s.arm = 1) := by omega
  refine acalls_val fun ns _ hns => ?_; refine acalls_of_wpc Tryz.mixed Tryz.dr34 Tryz.func34 rfl (Tryz.fit34 _ rfl) Tryz.en34 (fun hσ => ?_); simp [Tryz.ntmps34]
  have hnn := ne_own hσ hn
  have hn2 := own_ne hσ hn
  rcases hk with hk | hk | hk | hk | hk | hk
  · have out : (s.arm = 0 ∨ s.arm = 1) → doE s w c = doGo s w c := fun h => by unfold doE; rw [if_neg (by omega)]; simp [hk]
    simp [hn, hnn, hn2, hk]
    refine ⟨?_, ?_⟩
    all_goals
      refine CallK.use (steps_calls _ _) ?_
      simp [stepL, hn, hnn, hn2, hk]
      rcases ha with ha | ha | ha
      · simp [ha]
        refine Pure.use (check_pure 1) ?_
        simp
        refine (goes_do s (by omega)).use (w := w) (c := c) (o := o) trivial (by simp [hn, hnn, hn2]) (fun w' h => ?_) (fun k h => ?_)
        · simp
          exact doc_ok (by rw [out (by omega)]; exact h) (StWk.turn hσ (by simp [hnn, hn2, hn]) (fun m m1 m2 => by repeat' first | rfl | rw [Store.up_get, if_neg m2] | rw [up_other (by simp [Nm.under]) m1]))
        · simp
          exact doc_err (by rw [out (by omega)]; exact h) (by simp)
      · simp [ha]
        refine Pure.use (check_pure 1) ?_
        simp
        refine (goes_do s (by omega)).use (w := w) (c := c) (o := o) trivial (by simp [hn, hnn, hn2]) (fun w' h => ?_) (fun k h => ?_)
        · simp
          exact doc_ok (by rw [out (by omega)]; exact h) (StWk.turn hσ (by simp [hnn, hn2, hn]) (fun m m1 m2 => by repeat' first | rfl | rw [Store.up_get, if_neg m2] | rw [up_other (by simp [Nm.under]) m1]))
        · simp
          exact doc_err (by rw [out (by omega)]; exact h) (by simp)
      · have h0 : ¬ s.arm = 0 := fun h => ha (.inl h)
        have h1 : ¬ s.arm = 1 := fun h => ha (.inr h)
        simp [h0, h1, bne_f]
        refine check_use (by decide) (fun h => by cases h) (fun h => ?_)
        simp
        exact doc_err (if_pos (.inr ha)) (by simp)
  · have out : (s.arm = 0 ∨ s.arm = 1) → doE s w c = doBoth s w c := fun h => by unfold doE; rw [if_neg (by omega)]; simp [hk]
    simp [hn, hnn, hn2, hk]
    refine ⟨?_, ?_⟩
    all_goals
      refine CallK.use (steps_calls _ _) ?_
      simp [stepL, hn, hnn, hn2, hk]
      rcases ha with ha | ha | ha
      · simp [ha]
        refine Pure.use (check_pure 1) ?_
        simp
        refine (both_do s).use (w := w) (c := c) (o := o) trivial (by simp [hn, hnn, hn2]) (fun w' h => ?_) (fun k h => ?_)
        · simp
          exact doc_ok (by rw [out (by omega)]; exact h) (StWk.turn hσ (by simp [hnn, hn2, hn]) (fun m m1 m2 => by repeat' first | rfl | rw [Store.up_get, if_neg m2] | rw [up_other (by simp [Nm.under]) m1]))
        · simp
          exact doc_err (by rw [out (by omega)]; exact h) (by simp)
      · simp [ha]
        refine Pure.use (check_pure 1) ?_
        simp
        refine (both_do s).use (w := w) (c := c) (o := o) trivial (by simp [hn, hnn, hn2]) (fun w' h => ?_) (fun k h => ?_)
        · simp
          exact doc_ok (by rw [out (by omega)]; exact h) (StWk.turn hσ (by simp [hnn, hn2, hn]) (fun m m1 m2 => by repeat' first | rfl | rw [Store.up_get, if_neg m2] | rw [up_other (by simp [Nm.under]) m1]))
        · simp
          exact doc_err (by rw [out (by omega)]; exact h) (by simp)
      · have h0 : ¬ s.arm = 0 := fun h => ha (.inl h)
        have h1 : ¬ s.arm = 1 := fun h => ha (.inr h)
        simp [h0, h1, bne_f]
        refine check_use (by decide) (fun h => by cases h) (fun h => ?_)
        simp
        exact doc_err (if_pos (.inr ha)) (by simp)
  · have out : (s.arm = 0 ∨ s.arm = 1) → doE s w c = doTake s w c := fun h => by unfold doE; rw [if_neg (by omega)]; simp [hk]
    simp [hn, hnn, hn2, hk]
    refine ⟨?_, ?_⟩
    all_goals
      refine CallK.use (steps_calls _ _) ?_
      simp [stepL, hn, hnn, hn2, hk]
      rcases ha with ha | ha | ha
      · simp [ha]
        refine Pure.use (check_pure 1) ?_
        simp
        refine (take_do s (by omega)).use (w := w) (c := c) (o := o) hw (by simp [hn, hnn, hn2]) (fun w' h => ?_) (fun k h => ?_)
        · simp
          exact doc_ok (by rw [out (by omega)]; exact h) (StWk.turn hσ (by simp [hnn, hn2, hn]) (fun m m1 m2 => by repeat' first | rfl | rw [Store.up_get, if_neg m2] | rw [up_other (by simp [Nm.under]) m1]))
        · simp
          exact doc_err (by rw [out (by omega)]; exact h) (by simp)
      · simp [ha]
        refine Pure.use (check_pure 1) ?_
        simp
        refine (take_do s (by omega)).use (w := w) (c := c) (o := o) hw (by simp [hn, hnn, hn2]) (fun w' h => ?_) (fun k h => ?_)
        · simp
          exact doc_ok (by rw [out (by omega)]; exact h) (StWk.turn hσ (by simp [hnn, hn2, hn]) (fun m m1 m2 => by repeat' first | rfl | rw [Store.up_get, if_neg m2] | rw [up_other (by simp [Nm.under]) m1]))
        · simp
          exact doc_err (by rw [out (by omega)]; exact h) (by simp)
      · have h0 : ¬ s.arm = 0 := fun h => ha (.inl h)
        have h1 : ¬ s.arm = 1 := fun h => ha (.inr h)
        simp [h0, h1, bne_f]
        refine check_use (by decide) (fun h => by cases h) (fun h => ?_)
        simp
        exact doc_err (if_pos (.inr ha)) (by simp)
  · have out : (s.arm = 0 ∨ s.arm = 1) → doE s w c = doLeave s w c := fun h => by unfold doE; rw [if_neg (by omega)]; simp [hk]
    simp [hn, hnn, hn2, hk]
    refine ⟨?_, ?_⟩
    all_goals
      refine CallK.use (steps_calls _ _) ?_
      simp [stepL, hn, hnn, hn2, hk]
      rcases ha with ha | ha | ha
      · simp [ha]
        refine Pure.use (check_pure 1) ?_
        simp
        refine (leave_do s (by omega)).use (w := w) (c := c) (o := o) hw (by simp [hn, hnn, hn2]) (fun w' h => ?_) (fun k h => ?_)
        · simp
          exact doc_ok (by rw [out (by omega)]; exact h) (StWk.turn hσ (by simp [hnn, hn2, hn]) (fun m m1 m2 => by repeat' first | rfl | rw [Store.up_get, if_neg m2] | rw [up_other (by simp [Nm.under]) m1]))
        · simp
          exact doc_err (by rw [out (by omega)]; exact h) (by simp)
      · simp [ha]
        refine Pure.use (check_pure 1) ?_
        simp
        refine (leave_do s (by omega)).use (w := w) (c := c) (o := o) hw (by simp [hn, hnn, hn2]) (fun w' h => ?_) (fun k h => ?_)
        · simp
          exact doc_ok (by rw [out (by omega)]; exact h) (StWk.turn hσ (by simp [hnn, hn2, hn]) (fun m m1 m2 => by repeat' first | rfl | rw [Store.up_get, if_neg m2] | rw [up_other (by simp [Nm.under]) m1]))
        · simp
          exact doc_err (by rw [out (by omega)]; exact h) (by simp)
      · have h0 : ¬ s.arm = 0 := fun h => ha (.inl h)
        have h1 : ¬ s.arm = 1 := fun h => ha (.inr h)
        simp [h0, h1, bne_f]
        refine check_use (by decide) (fun h => by cases h) (fun h => ?_)
        simp
        exact doc_err (if_pos (.inr ha)) (by simp)
  · have out : (s.arm = 0 ∨ s.arm = 1) → doE s w c = doWait s w c := fun h => by unfold doE; rw [if_neg (by omega)]; simp [hk]
    simp [hn, hnn, hn2, hk]
    refine ⟨?_, ?_⟩
    all_goals
      refine CallK.use (steps_calls _ _) ?_
      simp [stepL, hn, hnn, hn2, hk]
      rcases ha with ha | ha | ha
      · simp [ha]
        refine Pure.use (check_pure 1) ?_
        simp
        refine (wait_do s).use (w := w) (c := c) (o := o) trivial (by simp [hn, hnn, hn2]) (fun w' h => ?_) (fun k h => ?_)
        · simp
          exact doc_ok (by rw [out (by omega)]; exact h) (StWk.turn hσ (by simp [hnn, hn2, hn]) (fun m m1 m2 => by repeat' first | rfl | rw [Store.up_get, if_neg m2] | rw [up_other (by simp [Nm.under]) m1]))
        · simp
          exact doc_err (by rw [out (by omega)]; exact h) (by simp)
      · simp [ha]
        refine Pure.use (check_pure 1) ?_
        simp
        refine (wait_do s).use (w := w) (c := c) (o := o) trivial (by simp [hn, hnn, hn2]) (fun w' h => ?_) (fun k h => ?_)
        · simp
          exact doc_ok (by rw [out (by omega)]; exact h) (StWk.turn hσ (by simp [hnn, hn2, hn]) (fun m m1 m2 => by repeat' first | rfl | rw [Store.up_get, if_neg m2] | rw [up_other (by simp [Nm.under]) m1]))
        · simp
          exact doc_err (by rw [out (by omega)]; exact h) (by simp)
      · have h0 : ¬ s.arm = 0 := fun h => ha (.inl h)
        have h1 : ¬ s.arm = 1 := fun h => ha (.inr h)
        simp [h0, h1, bne_f]
        refine check_use (by decide) (fun h => by cases h) (fun h => ?_)
        simp
        exact doc_err (if_pos (.inr ha)) (by simp)
  · have n1 : ¬ s.kind = 1 := by omega
    have n2 : ¬ s.kind = 2 := by omega
    have n3 : ¬ s.kind = 3 := by omega
    have n4 : ¬ s.kind = 4 := by omega
    have n5 : ¬ s.kind = 5 := by omega
    simp [hn, hnn, hn2]
    refine ⟨?_, ?_⟩
    all_goals
      refine CallK.use (steps_calls _ _) ?_
      simp [stepL, hn, hnn, hn2, bne_f n1, bne_f n2, bne_f n3, bne_f n4, bne_f n5]
      refine check_use (by decide) (fun h => by cases h) (fun h => ?_)
      simp
      exact doc_err (if_pos (.inl hk)) (by simp)
end Go.Proofs
