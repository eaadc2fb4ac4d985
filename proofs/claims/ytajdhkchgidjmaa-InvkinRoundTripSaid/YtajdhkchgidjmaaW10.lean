/- The walk of an arm's validity, and of what the laws take. -/
import Derived.Test.YtajdhkchgidjmaaW9
set_option linter.unusedVariables false
set_option linter.unusedSimpArgs false
set_option maxRecDepth 100000
namespace Go.Proofs
open Go Go.Abs
attribute [local irreducible] wpc aSeq awAny endA guardK condK CallK callT aPlan onlyL takeL aeffK takeE loopG bodyA thenA inBlockA planK roundG assignG bodyI endI YieldK unrollG
theorem tmod16 (x : Int) : x.tmod 16 = 0 ↔ x % 16 = 0 := by
  rw [← Int.dvd_iff_tmod_eq_zero, Int.dvd_iff_emod_eq_zero]
@[simp] theorem w64_4 : IntKind.wrap .i64 4 = 4 := by decide
@[simp] theorem w64_16 : IntKind.wrap .i64 16 = 16 := by decide
@[simp] theorem w64_18 : IntKind.wrap .i64 18 = 18 := by decide
@[simp] theorem w64_40 : IntKind.wrap .i64 40 = 40 := by decide
@[simp] theorem w64_m17 : IntKind.wrap .i64 (-17) = -17 := by decide
@[simp] theorem w64_unit : IntKind.wrap .i64 4394000 = 4394000 := by decide
@[simp] theorem w64_ext : IntKind.wrap .i64 439400000 = 439400000 := by decide
theorem near_spec {v : V2} : near v = true ↔ (-1000000000 ≤ v.1 ∧ v.1 ≤ 1000000000) ∧ -1000000000 ≤ v.2 ∧ v.2 ≤ 1000000000 := by simp [near]; omega
theorem right_far {a : Ar} (h : near a.base = false) : right a = false := by
  cases hr : right a with
  | false => rfl
  | true =>
    have := (right_spec hr).base
    rw [near_spec.2 (by omega)] at h; cases h
set_option maxHeartbeats 16000000 in
theorem right7_pure (a : Ar) : Pure Try.prog 11 [a.av] (.bool (right a)) := by
  intro σ ns; refine acalls_of_wpc Try.mixed Try.dr11 Try.func11 rfl (Try.fit11 _ rfl) Try.en11 (fun hσ => ?_); simp [Try.ntmps11]
  refine Pure.use_le (far7_pure a) ?_
  simp
  refine guardK_cases (fun h0 => ?_) (fun h0 => ?_) <;> simp [h0] <;> simp at h0
  · exact endA_eq (by simp [right_far h0]) (by simp)
  rw [near_spec] at h0
  refine guardK_cases (fun h1 => ?_) (fun h1 => ?_) <;> simp [h1] <;> simp at h1
  · exact endA_eq (by simp [right]; omega) (by simp)
  refine guardK_cases (fun h2 => ?_) (fun h2 => ?_) <;> simp [h2] <;> simp at h2
  · exact endA_eq (by simp [right]; omega) (by simp)
  refine guardK_cases (fun h3 => ?_) (fun h3 => ?_) <;> simp [h3] <;> simp [tmod16] at h3
  · exact endA_eq (by simp [right]; omega) (by simp)
  refine condK_cases (fun h4 => ?_) (fun h4 => ?_) <;> simp [h4] <;> simp [tmod16] at h4
  · exact endA_eq (by simp [right]; omega) (by simp)
  refine wpc_unroll 3 (fun k => ?_)
  as_aux_lemma =>
    simp
    refine guardK_cases (fun h => ?_) (fun h => ?_) <;> simp [h] <;> simp at h
    · exact endA_eq (by simp [right]; omega) (by simp)
    refine guardK_cases (fun h => ?_) (fun h => ?_) <;> simp [h] <;> simp at h
    · exact endA_eq (by simp [right]; omega) (by simp)
    refine guardK_cases (fun h => ?_) (fun h => ?_) <;> simp [h] <;> simp at h
    · exact endA_eq (by simp [right]; omega) (by simp)
    refine guardK_cases (fun h => ?_) (fun h => ?_) <;> simp [h] <;> simp at h
    · exact endA_eq (by simp [right]; omega) (by simp)
    refine guardK_cases (fun h => ?_) (fun h => ?_) <;> simp [h] <;> simp at h
    · exact endA_eq (by simp [right]; omega) (by simp)
    refine guardK_cases (fun h => ?_) (fun h => ?_) <;> simp [h] <;> simp at h
    · exact endA_eq (by simp [right]; omega) (by simp)
    refine condK_cases (fun h => ?_) (fun h => ?_) <;> simp [h] <;> simp at h
    · exact endA_eq (by simp [right]; omega) (by simp)
    have s1 : IntKind.wrap .i64 (a.wide + a.lens.a) = a.wide + a.lens.a := wrap64 (by omega) (by omega)
    simp [s1]
    refine unroll_next (fun k1 => ?_)
    as_aux_lemma =>
      simp
      refine guardK_cases (fun h => ?_) (fun h => ?_) <;> simp [h] <;> simp at h
      · exact endA_eq (by simp [right]; omega) (by simp)
      refine guardK_cases (fun h => ?_) (fun h => ?_) <;> simp [h] <;> simp at h
      · exact endA_eq (by simp [right]; omega) (by simp)
      refine guardK_cases (fun h => ?_) (fun h => ?_) <;> simp [h] <;> simp at h
      · exact endA_eq (by simp [right]; omega) (by simp)
      refine guardK_cases (fun h => ?_) (fun h => ?_) <;> simp [h] <;> simp at h
      · exact endA_eq (by simp [right]; omega) (by simp)
      refine guardK_cases (fun h => ?_) (fun h => ?_) <;> simp [h] <;> simp at h
      · exact endA_eq (by simp [right]; omega) (by simp)
      refine guardK_cases (fun h => ?_) (fun h => ?_) <;> simp [h] <;> simp at h
      · exact endA_eq (by simp [right]; omega) (by simp)
      refine condK_cases (fun h => ?_) (fun h => ?_) <;> simp [h] <;> simp at h
      · exact endA_eq (by simp [right]; omega) (by simp)
      have s2 : IntKind.wrap .i64 (a.wide + a.lens.a + a.lens.b) = a.wide + a.lens.a + a.lens.b := wrap64 (by omega) (by omega)
      simp [s2]
      refine unroll_next (fun k2 => ?_)
      as_aux_lemma =>
        simp
        refine guardK_cases (fun h => ?_) (fun h => ?_) <;> simp [h] <;> simp at h
        · exact endA_eq (by simp [right]; omega) (by simp)
        refine guardK_cases (fun h => ?_) (fun h => ?_) <;> simp [h] <;> simp at h
        · exact endA_eq (by simp [right]; omega) (by simp)
        refine guardK_cases (fun h => ?_) (fun h => ?_) <;> simp [h] <;> simp at h
        · exact endA_eq (by simp [right]; omega) (by simp)
        refine guardK_cases (fun h => ?_) (fun h => ?_) <;> simp [h] <;> simp at h
        · exact endA_eq (by simp [right]; omega) (by simp)
        refine guardK_cases (fun h => ?_) (fun h => ?_) <;> simp [h] <;> simp at h
        · exact endA_eq (by simp [right]; omega) (by simp)
        refine guardK_cases (fun h => ?_) (fun h => ?_) <;> simp [h] <;> simp at h
        · exact endA_eq (by simp [right]; omega) (by simp)
        refine condK_cases (fun h => ?_) (fun h => ?_) <;> simp [h] <;> simp at h
        · exact endA_eq (by simp [right]; omega) (by simp)
        have s3 : IntKind.wrap .i64 (a.wide + a.lens.a + a.lens.b + a.lens.c) = a.wide + a.lens.a + a.lens.b + a.lens.c := wrap64 (by omega) (by omega)
        simp [s3]
        refine unroll_next (fun k3 => ?_)
        as_aux_lemma =>
          simp
          refine Pure.use_le (size_pure a.base.1 (by omega)) ?_
          have e1 : (if a.base.1 < 0 then -a.base.1 else a.base.1) = max a.base.1 (-a.base.1) := by split <;> omega
          have e2 : (if a.base.2 < 0 then -a.base.2 else a.base.2) = max a.base.2 (-a.base.2) := by split <;> omega
          have z1 : 0 ≤ max a.base.1 (-a.base.1) ∧ max a.base.1 (-a.base.1) ≤ 1000000000 := by omega
          have z2 : 0 ≤ max a.base.2 (-a.base.2) ∧ max a.base.2 (-a.base.2) ≤ 1000000000 := by omega
          have s4 : IntKind.wrap .i64 ((a.wide + a.lens.a + a.lens.b + a.lens.c) * 4394000) = (a.wide + a.lens.a + a.lens.b + a.lens.c) * 4394000 := wrap64 (by omega) (by omega)
          have s5 : IntKind.wrap .i64 (max a.base.1 (-a.base.1) + (a.wide + a.lens.a + a.lens.b + a.lens.c) * 4394000) = max a.base.1 (-a.base.1) + (a.wide + a.lens.a + a.lens.b + a.lens.c) * 4394000 := wrap64 (by omega) (by omega)
          have s6 : IntKind.wrap .i64 (max a.base.2 (-a.base.2) + (a.wide + a.lens.a + a.lens.b + a.lens.c) * 4394000) = max a.base.2 (-a.base.2) + (a.wide + a.lens.a + a.lens.b + a.lens.c) * 4394000 := wrap64 (by omega) (by omega)
          rw [e1]
          simp [s4, s5]
          refine guardK_cases (fun h => ?_) (fun h => ?_) <;> simp [h] <;> simp at h
          · refine Pure.use_le (size_pure a.base.2 (by omega)) ?_
            rw [e2]
            simp [s4, s6]
            refine endA_eq (congrArg AV.bool ?_) (by simp)
            rw [Bool.eq_iff_iff]
            simp [right]
            omega
          · exact endA_eq (by simp [right]; omega) (by simp)
end Go.Proofs
