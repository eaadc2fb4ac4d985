/- Walks: commands, comparisons, the reference's tick. -/
import Derived.Test.YtbnmdfappoeipaaS1
set_option linter.unusedVariables false
set_option linter.unusedSimpArgs false
set_option maxRecDepth 100000
namespace Go.Proofs
open Go Go.Abs
attribute [local irreducible] wpc aSeq awAny endA guardK condK CallK callT aPlan onlyL takeL aeffK takeE loopG bodyA thenA inBlockA planK roundG assignG bodyI endI YieldK unrollG
theorem ne_beq {a b : Int} (h : ¬ a = b) : (a == b) = false := by simpa using h
theorem ne_bne {a b : Int} (h : ¬ a = b) : (a != b) = true := by simpa using h
def scmd (s : SS) : Int := if s.mode = 5 then 3 else if s.mode = 4 then 2 else if s.mode = 3 then (if s.cat = 0 then 2 else 1) else 0
theorem pCmd_pure (s : SS) : Pure Try.prog 21 [s.av] (.int .i64 (scmd s)) := by
  intro σ ns; refine acalls_of_wpc Try.mixed Try.dr21 Try.func21 rfl (Try.fit21 _ rfl) Try.en21 (fun hσ => ?_); simp [Try.ntmps21]
  by_cases m5 : s.mode = 5
  · simp [m5]
    exact endA_eq (by simp [scmd, m5]) (by simp)
  by_cases m4 : s.mode = 4
  · simp [m4]
    exact endA_eq (by simp [scmd, m4]) (by simp)
  by_cases m3 : s.mode = 3
  · by_cases c0 : s.cat = 0
    · simp [m3, c0]
      exact endA_eq (by simp [scmd, m3, c0]) (by simp)
    · simp [m3, ne_beq c0]
      exact endA_eq (by simp [scmd, m3, c0]) (by simp)
  simp [ne_beq m3, ne_beq m4, ne_beq m5]
  exact endA_eq (by simp [scmd, m3, m4, m5]) (by simp)
theorem rCmd_pure (s : SS) : Pure Try.prog 22 [s.av] (.int .i64 (scmd s)) := by
  intro σ ns; refine acalls_of_wpc Try.mixed Try.dr22 Try.func22 rfl (Try.fit22 _ rfl) Try.en22 (fun hσ => ?_); simp [Try.ntmps22]
  by_cases m5 : s.mode = 5
  · simp [m5]
    exact endA_eq (by simp [scmd, m5]) (by simp)
  by_cases m4 : s.mode = 4
  · simp [m4]
    exact endA_eq (by simp [scmd, m4]) (by simp)
  by_cases m3 : s.mode = 3
  · by_cases c0 : s.cat = 0
    · simp [m3, c0]
      exact endA_eq (by simp [scmd, m3, c0]) (by simp)
    · simp [m3, ne_beq c0]
      exact endA_eq (by simp [scmd, m3, c0]) (by simp)
  simp [ne_beq m3, ne_beq m4, ne_beq m5]
  exact endA_eq (by simp [scmd, m3, m4, m5]) (by simp)
theorem vi_beq (v w : Vi) : (v.k == w.k && (v.a == w.a && (v.j == w.j && v.n == w.n))) = decide (v = w) := by
  obtain ⟨a, b, c, d⟩ := v
  obtain ⟨a', b', c', d'⟩ := w
  rw [Bool.eq_iff_iff]; simp
theorem aeq2 (a b c d : Int) : aeqElems Try.prog 8 3 1 [.int .i64 a, .int .i64 b] [.int .i64 c, .int .i64 d] (List.range 2) = some (decide (a = c ∧ b = d)) := by
  rw [show List.range 2 = [0, 1] from rfl]
  by_cases h1 : a = c <;> by_cases h2 : b = d <;> simp [aeqElems, h1, h2, ne_beq]
theorem same_pure (s t : SS) (hs : s.ca.length ≤ 1000) (ht : t.ca.length ≤ 1000) : Pure Try.prog 17 [s.av, t.av] (.bool (decide (s = t))) := by
  intro σ ns; refine acalls_of_wpc Try.mixed Try.dr17 Try.func17 rfl (Try.fit17 _ rfl) Try.en17 (fun hσ => ?_); simp [Try.ntmps17]
  have neq : ∀ {p : Prop} [Decidable p], (s = t → p) → ¬ p → decide (s = t) = false := fun h h' => decide_eq_false fun e => h' (h e)
  by_cases h1 : s.mode = t.mode
  rotate_left
  · simp [ne_beq h1, ne_bne h1]
    exact endA_eq (by rw [neq (fun e => by rw [e]) h1]) (by simp)
  by_cases h2 : s.cat = t.cat
  rotate_left
  · simp [h1, ne_beq h2, ne_bne h2]
    exact endA_eq (by rw [neq (fun e => by rw [e]) h2]) (by simp)
  by_cases h3 : s.left = t.left
  rotate_left
  · simp [h1, h2, ne_beq h3, ne_bne h3]
    exact endA_eq (by rw [neq (fun e => by rw [e]) h3]) (by simp)
  by_cases h4 : s.t0 = t.t0
  rotate_left
  · simp [h1, h2, h3, aeq2, h4]
    exact endA_eq (by rw [neq (fun e => by rw [e]) h4]) (by simp)
  by_cases h5 : s.t1 = t.t1
  rotate_left
  · simp [h1, h2, h3, h4, aeq2, h5]
    exact endA_eq (by rw [neq (fun e => by rw [e]) h5]) (by simp)
  by_cases h6 : s.ca.length = t.ca.length
  rotate_left
  · simp [h1, h2, h3, h4, h5, aeq2, show ((s.ca.length : Int) != (t.ca.length : Int)) = true from ne_bne (by omega)]
    exact endA_eq (by rw [neq (fun e => by rw [e]) h6]) (by simp)
  simp [h1, h2, h3, h4, h5, h6, aeq2]
  refine wpc_loop0 (fun i : Nat => [(4, .any), (5, .any), (41, .any), (42, .any), (43, .any), (44, .any), (45, .any), (46, .any), (47, .any), (48, .any), (49, .any), (50, .any), (51, .any), (52, .any), (53, .any), (54, .any), (55, .any), (56, .any), (57, .any), (58, .any),  (5, .int .i64 i)]) (fun i => s.ca.length - i) (fun i => i ≤ s.ca.length ∧ s.ca.take i = t.ca.take i) 0 (by simp) ?_ ?_
  · simp
    (repeat' first | exact AVsle.nil | refine AVsle.cons (AVle.any _) ?_ | refine AVsle.cons (AVle.refl _) ?_ | refine AVsle.cons AVLe.le ?_)
  rintro i k ⟨hi, htk⟩
  simp
  refine condK_cases (fun h => ?_) (fun h => ?_) <;> simp at h
  · have gs := vget h
    have gt := vget (l := t.ca) (i := i) (by omega)
    have ts := vtake h
    have tt := vtake (l := t.ca) (i := i) (by omega)
    generalize s.ca.getD i v0 = x at gs ts
    generalize t.ca.getD i v0 = y at gt tt
    have w1 : IntKind.wrap .i64 ((i : Int) + 1) = ((i + 1 : Nat) : Int) := wrap64 (by omega) (by omega)
    simp [vcs_get gs, vcs_get gt, vi_beq]
    by_cases hxy : x = y
    · subst hxy
      simp [w1]
      refine loopG_normal (i + 1) ⟨by omega, by rw [ts, tt, htk]⟩ (by omega) ?_ (StWk.weak (.refl _)) rfl rfl
      simp
      (repeat' first | exact AVsle.nil | refine AVsle.cons (AVle.any _) ?_ | refine AVsle.cons (AVle.refl _) ?_ | refine AVsle.cons AVLe.le ?_)
    · simp [hxy]
      refine endA_eq ?_ (by simp)
      rw [neq (p := s.ca = t.ca) (fun e => by rw [e]) (fun e => hxy ?_)]
      rw [e] at gs
      rw [gs] at gt
      exact Option.some.inj gt
  · have hst : s = t := by
      have e1 : s.ca.take i = s.ca := List.take_of_length_le (by omega)
      have e2 : t.ca.take i = t.ca := List.take_of_length_le (by omega)
      rw [e1, e2] at htk
      obtain ⟨a, b, c, d, e, f⟩ := s
      obtain ⟨a', b', c', d', e', f'⟩ := t
      simp only at h1 h2 h3 h4 h5 htk
      rw [h1, h2, h3, h4, h5, htk]
    simp
    exact endA_eq (by simp [hst]) (by simp)
end Go.Proofs
