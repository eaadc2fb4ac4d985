/- The walk of the reference's check on cells. -/
import Derived.Test.YtnanajdckbfamaaGreatDoorC3
set_option linter.unusedVariables false
set_option linter.unusedSimpArgs false
set_option maxRecDepth 100000
namespace Go.Proofs
open Go Go.Abs
attribute [local irreducible] wpc aSeq awAny endA guardK condK CallK callT aPlan onlyL takeL aeffK takeE loopG bodyA thenA inBlockA planK roundG assignG bodyI endI YieldK unrollG
set_option maxHeartbeats 16000000 in
theorem Right9_pure (c : Ce) (hb : CeB c) : Pure Tryz.prog 25 [c.av] (.bool (rightC c)) := by
  refine pure_val fun σ ns _ => ?_; refine acalls_of_wpc Tryz.mixed Tryz.dr25 Tryz.func25 rfl (Tryz.fit25 _ rfl) Tryz.en25 (fun hσ => ?_); simp [Tryz.ntmps25]
  refine wpc_unroll 2 (fun k => ?_)
  as_aux_lemma =>
    simp
    first | refine Pure.use_le (right7_pure c.a0) ?_ | refine callT_le (right7_pure c.a0) ?_
    simp
    refine guardK_cases (fun h1 => ?_) (fun h1 => ?_) <;> simp [h1] <;> (try simp at h1)
    · exact endA_eq (congrArg AV.bool (decide_eq_false fun h => by have := h.arm0; simp [h1] at this).symm) (by simp)
    first | refine Pure.use_le (rFits_pure c.a0 c.h0) ?_ | refine callT_le (rFits_pure c.a0 c.h0) ?_
    simp
    refine condK_cases (fun h2 => ?_) (fun h2 => ?_) <;> simp [h2] <;> (try simp at h2)
    · exact endA_eq (congrArg AV.bool (decide_eq_false fun h => by have := h.fit0; simp [h2] at this).symm) (by simp)
    have hP := right_spec h1
    have hl := hP.lens
    have hbs := hP.base
    obtain ⟨m1, e1, b1⟩ : ∃ m, (if c.a0.base.1 < -c.a0.base.1 then -c.a0.base.1 else c.a0.base.1) = m ∧ (0 ≤ m ∧ m ≤ 439400000) ∧ ((c.a0.base.1 ≤ m ∧ -c.a0.base.1 ≤ m) ∧ (m = c.a0.base.1 ∨ m = -c.a0.base.1)) := ⟨_, rfl, by split <;> omega⟩
    obtain ⟨m2, e2, b2⟩ : ∃ m, (if c.a0.base.2 < -c.a0.base.2 then -c.a0.base.2 else c.a0.base.2) = m ∧ (0 ≤ m ∧ m ≤ 439400000) ∧ ((c.a0.base.2 ≤ m ∧ -c.a0.base.2 ≤ m) ∧ (m = c.a0.base.2 ∨ m = -c.a0.base.2)) := ⟨_, rfl, by split <;> omega⟩
    have w1 : IntKind.wrap .i64 (c.a0.lens.a + c.a0.lens.b) = c.a0.lens.a + c.a0.lens.b := wrap64 (by omega) (by omega)
    have w2 : IntKind.wrap .i64 (c.a0.lens.a + c.a0.lens.b + c.a0.lens.c) = c.a0.lens.a + c.a0.lens.b + c.a0.lens.c := wrap64 (by omega) (by omega)
    have w3 : IntKind.wrap .i64 (c.a0.lens.a + c.a0.lens.b + c.a0.lens.c + 15) = c.a0.lens.a + c.a0.lens.b + c.a0.lens.c + 15 := wrap64 (by omega) (by omega)
    have w4 : IntKind.wrap .i64 (39546000 * (c.a0.lens.a + c.a0.lens.b + c.a0.lens.c + 15)) = 39546000 * (c.a0.lens.a + c.a0.lens.b + c.a0.lens.c + 15) := wrap64 (by omega) (by omega)
    have w5 : IntKind.wrap .i64 (-c.a0.base.1) = -c.a0.base.1 := wrap64 (by omega) (by omega)
    have w6 : IntKind.wrap .i64 (-c.a0.base.2) = -c.a0.base.2 := wrap64 (by omega) (by omega)
    have w7 : IntKind.wrap .i64 (8 * m1) = 8 * m1 := wrap64 (by omega) (by omega)
    have w8 : IntKind.wrap .i64 (8 * m2) = 8 * m2 := wrap64 (by omega) (by omega)
    have w9 : IntKind.wrap .i64 (8 * m1 + 39546000 * (c.a0.lens.a + c.a0.lens.b + c.a0.lens.c + 15)) = 8 * m1 + 39546000 * (c.a0.lens.a + c.a0.lens.b + c.a0.lens.c + 15) := wrap64 (by omega) (by omega)
    have w10 : IntKind.wrap .i64 (8 * m2 + 39546000 * (c.a0.lens.a + c.a0.lens.b + c.a0.lens.c + 15)) = 8 * m2 + 39546000 * (c.a0.lens.a + c.a0.lens.b + c.a0.lens.c + 15) := wrap64 (by omega) (by omega)
    simp [w1, w2, w3, w4, w5, e1, w7, w9]
    refine guardK_cases (fun h3 => ?_) (fun h3 => ?_) <;> simp [h3, w6, e2, w8, w10] <;> (try simp at h3)
    · exact endA_eq (congrArg AV.bool (decide_eq_false fun h => by have := h.near0; unfold nearA at this; omega).symm) (by simp)
    refine condK_cases (fun h4 => ?_) (fun h4 => ?_) <;> simp [h4] <;> (try simp at h4)
    · exact endA_eq (congrArg AV.bool (decide_eq_false fun h => by have := h.near0; unfold nearA at this; omega).symm) (by simp)
    have nr0 : nearA c.a0 := by unfold nearA; omega
    clear hP hl hbs e1 b1 e2 b2 w1 w2 w3 w4 w5 w6 w7 w8 w9 w10 h3 h4
    refine unroll_next (fun k1 => ?_)
    as_aux_lemma =>
      simp
      first | refine Pure.use_le (right7_pure c.a1) ?_ | refine callT_le (right7_pure c.a1) ?_
      simp
      refine guardK_cases (fun g1 => ?_) (fun g1 => ?_) <;> simp [g1] <;> (try simp at g1)
      · exact endA_eq (congrArg AV.bool (decide_eq_false fun h => by have := h.arm1; simp [g1] at this).symm) (by simp)
      first | refine Pure.use_le (rFits_pure c.a1 c.h1) ?_ | refine callT_le (rFits_pure c.a1 c.h1) ?_
      simp
      refine condK_cases (fun g2 => ?_) (fun g2 => ?_) <;> simp [g2] <;> (try simp at g2)
      · exact endA_eq (congrArg AV.bool (decide_eq_false fun h => by have := h.fit1; simp [g2] at this).symm) (by simp)
      have hP := right_spec g1
      have hl := hP.lens
      have hbs := hP.base
      obtain ⟨m1, e1, b1⟩ : ∃ m, (if c.a1.base.1 < -c.a1.base.1 then -c.a1.base.1 else c.a1.base.1) = m ∧ (0 ≤ m ∧ m ≤ 439400000) ∧ ((c.a1.base.1 ≤ m ∧ -c.a1.base.1 ≤ m) ∧ (m = c.a1.base.1 ∨ m = -c.a1.base.1)) := ⟨_, rfl, by split <;> omega⟩
      obtain ⟨m2, e2, b2⟩ : ∃ m, (if c.a1.base.2 < -c.a1.base.2 then -c.a1.base.2 else c.a1.base.2) = m ∧ (0 ≤ m ∧ m ≤ 439400000) ∧ ((c.a1.base.2 ≤ m ∧ -c.a1.base.2 ≤ m) ∧ (m = c.a1.base.2 ∨ m = -c.a1.base.2)) := ⟨_, rfl, by split <;> omega⟩
      have w1 : IntKind.wrap .i64 (c.a1.lens.a + c.a1.lens.b) = c.a1.lens.a + c.a1.lens.b := wrap64 (by omega) (by omega)
      have w2 : IntKind.wrap .i64 (c.a1.lens.a + c.a1.lens.b + c.a1.lens.c) = c.a1.lens.a + c.a1.lens.b + c.a1.lens.c := wrap64 (by omega) (by omega)
      have w3 : IntKind.wrap .i64 (c.a1.lens.a + c.a1.lens.b + c.a1.lens.c + 15) = c.a1.lens.a + c.a1.lens.b + c.a1.lens.c + 15 := wrap64 (by omega) (by omega)
      have w4 : IntKind.wrap .i64 (39546000 * (c.a1.lens.a + c.a1.lens.b + c.a1.lens.c + 15)) = 39546000 * (c.a1.lens.a + c.a1.lens.b + c.a1.lens.c + 15) := wrap64 (by omega) (by omega)
      have w5 : IntKind.wrap .i64 (-c.a1.base.1) = -c.a1.base.1 := wrap64 (by omega) (by omega)
      have w6 : IntKind.wrap .i64 (-c.a1.base.2) = -c.a1.base.2 := wrap64 (by omega) (by omega)
      have w7 : IntKind.wrap .i64 (8 * m1) = 8 * m1 := wrap64 (by omega) (by omega)
      have w8 : IntKind.wrap .i64 (8 * m2) = 8 * m2 := wrap64 (by omega) (by omega)
      have w9 : IntKind.wrap .i64 (8 * m1 + 39546000 * (c.a1.lens.a + c.a1.lens.b + c.a1.lens.c + 15)) = 8 * m1 + 39546000 * (c.a1.lens.a + c.a1.lens.b + c.a1.lens.c + 15) := wrap64 (by omega) (by omega)
      have w10 : IntKind.wrap .i64 (8 * m2 + 39546000 * (c.a1.lens.a + c.a1.lens.b + c.a1.lens.c + 15)) = 8 * m2 + 39546000 * (c.a1.lens.a + c.a1.lens.b + c.a1.lens.c + 15) := wrap64 (by omega) (by omega)
      simp [w1, w2, w3, w4, w5, e1, w7, w9]
      refine guardK_cases (fun g3 => ?_) (fun g3 => ?_) <;> simp [g3, w6, e2, w8, w10] <;> (try simp at g3)
      · exact endA_eq (congrArg AV.bool (decide_eq_false fun h => by have := h.near1; unfold nearA at this; omega).symm) (by simp)
      refine condK_cases (fun g4 => ?_) (fun g4 => ?_) <;> simp [g4] <;> (try simp at g4)
      · exact endA_eq (congrArg AV.bool (decide_eq_false fun h => by have := h.near1; unfold nearA at this; omega).symm) (by simp)
      have nr1 : nearA c.a1 := by unfold nearA; omega
      clear hP hl hbs e1 b1 e2 b2 w1 w2 w3 w4 w5 w6 w7 w8 w9 w10 g3 g4
      refine unroll_next (fun k2 => ?_)
      as_aux_lemma =>
        simp
        refine guardK_cases (fun h3 => ?_) (fun h3 => ?_) <;> simp [h3] <;> (try simp at h3)
        · exact endA_eq (congrArg AV.bool (decide_eq_false fun h => by have := (of_decide_eq_true h.places : placesP _).2.1; omega).symm) (by simp)
        refine guardK_cases (fun h4 => ?_) (fun h4 => ?_) <;> simp [h4] <;> (try simp at h4)
        · exact endA_eq (congrArg AV.bool (decide_eq_false fun h => by have := (of_decide_eq_true h.parts : partsP _ _).2.1; omega).symm) (by simp)
        refine condK_cases (fun h5 => ?_) (fun h5 => ?_) <;> simp [h5] <;> (try simp at h5)
        · exact endA_eq (congrArg AV.bool (decide_eq_false fun h => by have := h.belt; omega).symm) (by simp)
        first | refine Pure.use_le (bounded9_pure c.lim) ?_ | refine callT_le (bounded9_pure c.lim) ?_
        simp
        obtain ⟨lims, hlims⟩ : ∃ b : Bool, b = decide (limOk c.lim ∧ limOk c.loaded ∧ c.loaded.a ≤ c.lim.a ∧ c.loaded.b ≤ c.lim.b ∧ c.loaded.c ≤ c.lim.c) := ⟨_, rfl⟩
        have bad : lims = false → false = rightC c := fun hl => (decide_eq_false fun h => by rw [hl] at hlims; exact absurd (And.intro h.lim (And.intro h.loaded h.below)) (of_decide_eq_false hlims.symm)).symm
        have f1 := polys9_pure c.fix (by have := hb.fix; omega) hb.fixl
        have f2 := areas9_pure c (by have := hb.zones; omega)
        have f3 := polys9_pure c.zones (by have := hb.zones; omega) hb.zonesl
        have f4 := places9_pure c.places hb.places hb.pnames
        have f5 := parts9_pure c.parts c.places.length hb.parts hb.tsizes
        have f6 := unlike9_pure c.belt c.places.length (by have := hb.belt; omega)
        refine guardK_cases (fun i1 => ?_) (fun i1 => ?_) <;> simp [i1]
        · first | refine Pure.use_le (bounded9_pure c.loaded) ?_ | refine callT_le (bounded9_pure c.loaded) ?_
          simp
          refine guardK_cases (fun i2 => ?_) (fun i2 => ?_) <;> simp [i2]
          · refine guardK_cases (fun i3 => ?_) (fun i3 => ?_) <;> simp [i3]
            · refine guardK_cases (fun i4 => ?_) (fun i4 => ?_) <;> simp [i4]
              · simp at i1 i2 i3 i4
                have hL : lims = decide (c.loaded.c ≤ c.lim.c) := by rw [hlims]; exact decide_eq_decide.2 ⟨fun h => h.2.2.2.2, fun h => ⟨by unfold limOk; omega, by unfold limOk; omega, i3, i4, h⟩⟩
                first | refine Pure.use_le (f1) ?_ | refine callT_le (f1) ?_
                simp
                refine guardK_cases (fun j1 => ?_) (fun j1 => ?_) <;> simp [j1]
                rotate_left
                · exact endA_eq (congrArg AV.bool (decide_eq_false fun h => by have := h.fix; simp [j1] at this).symm) (by simp)
                first | refine Pure.use_le (f2) ?_ | refine callT_le (f2) ?_
                simp
                first | refine Pure.use_le (f3) ?_ | refine callT_le (f3) ?_
                simp
                refine guardK_cases (fun j2 => ?_) (fun j2 => ?_) <;> simp [j2]
                rotate_left
                · exact endA_eq (congrArg AV.bool (decide_eq_false fun h => by have := h.zones; simp [j2] at this).symm) (by simp)
                first | refine Pure.use_le (f4) ?_ | refine callT_le (f4) ?_
                simp
                refine guardK_cases (fun j3 => ?_) (fun j3 => ?_) <;> simp [j3]
                rotate_left
                · exact endA_eq (congrArg AV.bool (decide_eq_false fun h => by have := h.places; simp [j3] at this).symm) (by simp)
                first | refine Pure.use_le (f5) ?_ | refine callT_le (f5) ?_
                simp
                refine guardK_cases (fun j4 => ?_) (fun j4 => ?_) <;> simp [j4]
                rotate_left
                · exact endA_eq (congrArg AV.bool (decide_eq_false fun h => by have := h.parts; simp [j4] at this).symm) (by simp)
                first | refine Pure.use_le (f6) ?_ | refine callT_le (f6) ?_
                simp
                refine guardK_cases (fun j5 => ?_) (fun j5 => ?_) <;> simp [j5]
                rotate_left
                · exact endA_eq (congrArg AV.bool (decide_eq_false fun h => by have := h.beltU; simp [j5] at this).symm) (by simp)
                refine guardK_cases (fun j6 => ?_) (fun j6 => ?_) <;> simp [j6] <;> simp at j6
                rotate_left
                · exact endA_eq (congrArg AV.bool (decide_eq_false fun h => by have := h.period; omega).symm) (by simp)
                refine guardK_cases (fun j7 => ?_) (fun j7 => ?_) <;> simp [j7] <;> simp at j7
                rotate_left
                · exact endA_eq (congrArg AV.bool (decide_eq_false fun h => by have := h.period; omega).symm) (by simp)
                refine guardK_cases (fun j8 => ?_) (fun j8 => ?_) <;> simp [j8] <;> simp at j8
                rotate_left
                · exact endA_eq (congrArg AV.bool (decide_eq_false fun h => by have := h.below; omega).symm) (by simp)
                refine guardK_cases (fun j9 => ?_) (fun j9 => ?_) <;> simp [j9] <;> simp at j9
                rotate_left
                · exact endA_eq (congrArg AV.bool (decide_eq_false fun h => by have := h.gap; omega).symm) (by simp)
                refine guardK_cases (fun j10 => ?_) (fun j10 => ?_) <;> simp [j10] <;> simp at j10
                rotate_left
                · exact endA_eq (congrArg AV.bool (decide_eq_false fun h => by have := h.gap; omega).symm) (by simp)
                refine guardK_cases (fun j11 => ?_) (fun j11 => ?_) <;> simp [j11] <;> simp at j11
                rotate_left
                · exact endA_eq (congrArg AV.bool (decide_eq_false fun h => by have := h.slow; omega).symm) (by simp)
                refine endA_eq (congrArg AV.bool (Bool.eq_iff_iff.2 ⟨fun j => decide_eq_true ⟨h1, h2, nr0, g1, g2, nr1, by omega, j1, j2, j3, j4, j5, ⟨j6, j7⟩, by unfold limOk; omega, by unfold limOk; omega, ⟨i3, i4, j8⟩, ⟨j9, j10⟩, j11, by simpa using j⟩, fun j => ?_⟩)) (by simp)
                have := (of_decide_eq_true j : RightC c).slow
                simpa using this.2
              · have hL : lims = false := by rw [hlims]; refine decide_eq_false fun hh => ?_; simp [limOk] at hh i4; omega
                first | refine Pure.use_le (f1) ?_ | refine callT_le (f1) ?_
                simp
                refine guardK_cases (fun j1 => ?_) (fun j1 => ?_) <;> simp [j1]
                rotate_left
                · exact endA_eq (congrArg AV.bool (decide_eq_false fun h => by have := h.fix; simp [j1] at this).symm) (by simp)
                first | refine Pure.use_le (f2) ?_ | refine callT_le (f2) ?_
                simp
                first | refine Pure.use_le (f3) ?_ | refine callT_le (f3) ?_
                simp
                refine guardK_cases (fun j2 => ?_) (fun j2 => ?_) <;> simp [j2]
                rotate_left
                · exact endA_eq (congrArg AV.bool (decide_eq_false fun h => by have := h.zones; simp [j2] at this).symm) (by simp)
                first | refine Pure.use_le (f4) ?_ | refine callT_le (f4) ?_
                simp
                refine guardK_cases (fun j3 => ?_) (fun j3 => ?_) <;> simp [j3]
                rotate_left
                · exact endA_eq (congrArg AV.bool (decide_eq_false fun h => by have := h.places; simp [j3] at this).symm) (by simp)
                first | refine Pure.use_le (f5) ?_ | refine callT_le (f5) ?_
                simp
                refine guardK_cases (fun j4 => ?_) (fun j4 => ?_) <;> simp [j4]
                rotate_left
                · exact endA_eq (congrArg AV.bool (decide_eq_false fun h => by have := h.parts; simp [j4] at this).symm) (by simp)
                first | refine Pure.use_le (f6) ?_ | refine callT_le (f6) ?_
                simp
                refine guardK_cases (fun j5 => ?_) (fun j5 => ?_) <;> simp [j5]
                rotate_left
                · exact endA_eq (congrArg AV.bool (decide_eq_false fun h => by have := h.beltU; simp [j5] at this).symm) (by simp)
                refine guardK_cases (fun j6 => ?_) (fun j6 => ?_) <;> simp [j6] <;> simp at j6
                rotate_left
                · exact endA_eq (congrArg AV.bool (decide_eq_false fun h => by have := h.period; omega).symm) (by simp)
                refine guardK_cases (fun j7 => ?_) (fun j7 => ?_) <;> simp [j7] <;> simp at j7
                all_goals exact endA_eq (congrArg AV.bool (bad hL)) (by simp)
            · have hL : lims = false := by rw [hlims]; refine decide_eq_false fun hh => ?_; simp [limOk] at hh i3; omega
              first | refine Pure.use_le (f1) ?_ | refine callT_le (f1) ?_
              simp
              refine guardK_cases (fun j1 => ?_) (fun j1 => ?_) <;> simp [j1]
              rotate_left
              · exact endA_eq (congrArg AV.bool (decide_eq_false fun h => by have := h.fix; simp [j1] at this).symm) (by simp)
              first | refine Pure.use_le (f2) ?_ | refine callT_le (f2) ?_
              simp
              first | refine Pure.use_le (f3) ?_ | refine callT_le (f3) ?_
              simp
              refine guardK_cases (fun j2 => ?_) (fun j2 => ?_) <;> simp [j2]
              rotate_left
              · exact endA_eq (congrArg AV.bool (decide_eq_false fun h => by have := h.zones; simp [j2] at this).symm) (by simp)
              first | refine Pure.use_le (f4) ?_ | refine callT_le (f4) ?_
              simp
              refine guardK_cases (fun j3 => ?_) (fun j3 => ?_) <;> simp [j3]
              rotate_left
              · exact endA_eq (congrArg AV.bool (decide_eq_false fun h => by have := h.places; simp [j3] at this).symm) (by simp)
              first | refine Pure.use_le (f5) ?_ | refine callT_le (f5) ?_
              simp
              refine guardK_cases (fun j4 => ?_) (fun j4 => ?_) <;> simp [j4]
              rotate_left
              · exact endA_eq (congrArg AV.bool (decide_eq_false fun h => by have := h.parts; simp [j4] at this).symm) (by simp)
              first | refine Pure.use_le (f6) ?_ | refine callT_le (f6) ?_
              simp
              refine guardK_cases (fun j5 => ?_) (fun j5 => ?_) <;> simp [j5]
              rotate_left
              · exact endA_eq (congrArg AV.bool (decide_eq_false fun h => by have := h.beltU; simp [j5] at this).symm) (by simp)
              refine guardK_cases (fun j6 => ?_) (fun j6 => ?_) <;> simp [j6] <;> simp at j6
              rotate_left
              · exact endA_eq (congrArg AV.bool (decide_eq_false fun h => by have := h.period; omega).symm) (by simp)
              refine guardK_cases (fun j7 => ?_) (fun j7 => ?_) <;> simp [j7] <;> simp at j7
              all_goals exact endA_eq (congrArg AV.bool (bad hL)) (by simp)
          · have hL : lims = false := by rw [hlims]; refine decide_eq_false fun hh => ?_; simp [limOk] at hh i2; omega
            first | refine Pure.use_le (f1) ?_ | refine callT_le (f1) ?_
            simp
            refine guardK_cases (fun j1 => ?_) (fun j1 => ?_) <;> simp [j1]
            rotate_left
            · exact endA_eq (congrArg AV.bool (decide_eq_false fun h => by have := h.fix; simp [j1] at this).symm) (by simp)
            first | refine Pure.use_le (f2) ?_ | refine callT_le (f2) ?_
            simp
            first | refine Pure.use_le (f3) ?_ | refine callT_le (f3) ?_
            simp
            refine guardK_cases (fun j2 => ?_) (fun j2 => ?_) <;> simp [j2]
            rotate_left
            · exact endA_eq (congrArg AV.bool (decide_eq_false fun h => by have := h.zones; simp [j2] at this).symm) (by simp)
            first | refine Pure.use_le (f4) ?_ | refine callT_le (f4) ?_
            simp
            refine guardK_cases (fun j3 => ?_) (fun j3 => ?_) <;> simp [j3]
            rotate_left
            · exact endA_eq (congrArg AV.bool (decide_eq_false fun h => by have := h.places; simp [j3] at this).symm) (by simp)
            first | refine Pure.use_le (f5) ?_ | refine callT_le (f5) ?_
            simp
            refine guardK_cases (fun j4 => ?_) (fun j4 => ?_) <;> simp [j4]
            rotate_left
            · exact endA_eq (congrArg AV.bool (decide_eq_false fun h => by have := h.parts; simp [j4] at this).symm) (by simp)
            first | refine Pure.use_le (f6) ?_ | refine callT_le (f6) ?_
            simp
            refine guardK_cases (fun j5 => ?_) (fun j5 => ?_) <;> simp [j5]
            rotate_left
            · exact endA_eq (congrArg AV.bool (decide_eq_false fun h => by have := h.beltU; simp [j5] at this).symm) (by simp)
            refine guardK_cases (fun j6 => ?_) (fun j6 => ?_) <;> simp [j6] <;> simp at j6
            rotate_left
            · exact endA_eq (congrArg AV.bool (decide_eq_false fun h => by have := h.period; omega).symm) (by simp)
            refine guardK_cases (fun j7 => ?_) (fun j7 => ?_) <;> simp [j7] <;> simp at j7
            all_goals exact endA_eq (congrArg AV.bool (bad hL)) (by simp)
        · have hL : lims = false := by rw [hlims]; refine decide_eq_false fun hh => ?_; simp [limOk] at hh i1; omega
          first | refine Pure.use_le (f1) ?_ | refine callT_le (f1) ?_
          simp
          refine guardK_cases (fun j1 => ?_) (fun j1 => ?_) <;> simp [j1]
          rotate_left
          · exact endA_eq (congrArg AV.bool (decide_eq_false fun h => by have := h.fix; simp [j1] at this).symm) (by simp)
          first | refine Pure.use_le (f2) ?_ | refine callT_le (f2) ?_
          simp
          first | refine Pure.use_le (f3) ?_ | refine callT_le (f3) ?_
          simp
          refine guardK_cases (fun j2 => ?_) (fun j2 => ?_) <;> simp [j2]
          rotate_left
          · exact endA_eq (congrArg AV.bool (decide_eq_false fun h => by have := h.zones; simp [j2] at this).symm) (by simp)
          first | refine Pure.use_le (f4) ?_ | refine callT_le (f4) ?_
          simp
          refine guardK_cases (fun j3 => ?_) (fun j3 => ?_) <;> simp [j3]
          rotate_left
          · exact endA_eq (congrArg AV.bool (decide_eq_false fun h => by have := h.places; simp [j3] at this).symm) (by simp)
          first | refine Pure.use_le (f5) ?_ | refine callT_le (f5) ?_
          simp
          refine guardK_cases (fun j4 => ?_) (fun j4 => ?_) <;> simp [j4]
          rotate_left
          · exact endA_eq (congrArg AV.bool (decide_eq_false fun h => by have := h.parts; simp [j4] at this).symm) (by simp)
          first | refine Pure.use_le (f6) ?_ | refine callT_le (f6) ?_
          simp
          refine guardK_cases (fun j5 => ?_) (fun j5 => ?_) <;> simp [j5]
          rotate_left
          · exact endA_eq (congrArg AV.bool (decide_eq_false fun h => by have := h.beltU; simp [j5] at this).symm) (by simp)
          refine guardK_cases (fun j6 => ?_) (fun j6 => ?_) <;> simp [j6] <;> simp at j6
          rotate_left
          · exact endA_eq (congrArg AV.bool (decide_eq_false fun h => by have := h.period; omega).symm) (by simp)
          refine guardK_cases (fun j7 => ?_) (fun j7 => ?_) <;> simp [j7] <;> simp at j7
          all_goals exact endA_eq (congrArg AV.bool (bad hL)) (by simp)
end Go.Proofs
