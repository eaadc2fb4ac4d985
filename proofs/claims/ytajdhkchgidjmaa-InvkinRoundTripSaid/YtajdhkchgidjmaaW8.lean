/- Walks of the functions with loops over three joints. -/
import Derived.Test.YtajdhkchgidjmaaW7
set_option linter.unusedVariables false
set_option linter.unusedSimpArgs false
set_option maxRecDepth 100000
namespace Go.Proofs
open Go Go.Abs
attribute [local irreducible] wpc aSeq awAny endA guardK condK CallK callT aPlan onlyL takeL aeffK takeE loopG bodyA thenA inBlockA planK roundG assignG bodyI endI YieldK unrollG
@[simp] theorem w64_0 : IntKind.wrap .i64 0 = 0 := by decide
@[simp] theorem w64_1 : IntKind.wrap .i64 1 = 1 := by decide
@[simp] theorem w64_2 : IntKind.wrap .i64 2 = 2 := by decide
@[simp] theorem w64_3 : IntKind.wrap .i64 3 = 3 := by decide
@[simp] theorem w64_m1 : IntKind.wrap .i64 (-1) = -1 := by decide
def fits (a : Ar) (q : J3) : Bool := decide (a.low.a ≤ q.a ∧ q.a ≤ a.high.a) && decide (a.low.b ≤ q.b ∧ q.b ≤ a.high.b) && decide (a.low.c ≤ q.c ∧ q.c ≤ a.high.c)
theorem inLimits_pure (a : Ar) (q : J3) : Pure Try.prog 27 [a.av, q.av] (.bool (fits a q)) := by
  obtain ⟨b0, le, wi, ⟨l0, l1, l2⟩, ⟨g0, g1, g2⟩⟩ := a
  obtain ⟨q0, q1, q2⟩ := q
  intro σ ns; refine acalls_of_wpc Try.mixed Try.dr27 Try.func27 rfl (Try.fit27 _ rfl) Try.en27 (fun hσ => ?_); simp [Try.ntmps27]
  refine wpc_unroll 3 (fun k => ?_)
  simp
  refine guardK_cases (fun h0 => ?_) (fun h0 => ?_) <;> simp [h0] <;> simp at h0
  · exact endA_eq (by simp [fits]; omega) (by simp)
  refine condK_cases (fun h1 => ?_) (fun h1 => ?_) <;> simp [h1] <;> simp at h1
  · exact endA_eq (by simp [fits]; omega) (by simp)
  refine unroll_next (fun k1 => ?_)
  simp
  refine guardK_cases (fun h2 => ?_) (fun h2 => ?_) <;> simp [h2] <;> simp at h2
  · exact endA_eq (by simp [fits]; omega) (by simp)
  refine condK_cases (fun h3 => ?_) (fun h3 => ?_) <;> simp [h3] <;> simp at h3
  · exact endA_eq (by simp [fits]; omega) (by simp)
  refine unroll_next (fun k2 => ?_)
  simp
  refine guardK_cases (fun h4 => ?_) (fun h4 => ?_) <;> simp [h4] <;> simp at h4
  · exact endA_eq (by simp [fits]; omega) (by simp)
  refine condK_cases (fun h5 => ?_) (fun h5 => ?_) <;> simp [h5] <;> simp at h5
  · exact endA_eq (by simp [fits]; omega) (by simp)
  refine unroll_next (fun k3 => ?_)
  simp
  exact endA_eq (by simp [fits]; omega) (by simp)
theorem rFits_pure (a : Ar) (q : J3) : Pure Try.prog 23 [a.av, q.av] (.bool (fits a q)) := by
  obtain ⟨b0, le, wi, ⟨l0, l1, l2⟩, ⟨g0, g1, g2⟩⟩ := a
  obtain ⟨q0, q1, q2⟩ := q
  intro σ ns; refine acalls_of_wpc Try.mixed Try.dr23 Try.func23 rfl (Try.fit23 _ rfl) Try.en23 (fun hσ => ?_); simp [Try.ntmps23]
  refine wpc_unroll 3 (fun k => ?_)
  simp
  refine guardK_cases (fun h0 => ?_) (fun h0 => ?_) <;> simp [h0] <;> simp at h0
  · exact endA_eq (by simp [fits]; omega) (by simp)
  refine condK_cases (fun h1 => ?_) (fun h1 => ?_) <;> simp [h1] <;> simp at h1
  · exact endA_eq (by simp [fits]; omega) (by simp)
  refine unroll_next (fun k1 => ?_)
  simp
  refine guardK_cases (fun h2 => ?_) (fun h2 => ?_) <;> simp [h2] <;> simp at h2
  · exact endA_eq (by simp [fits]; omega) (by simp)
  refine condK_cases (fun h3 => ?_) (fun h3 => ?_) <;> simp [h3] <;> simp at h3
  · exact endA_eq (by simp [fits]; omega) (by simp)
  refine unroll_next (fun k2 => ?_)
  simp
  refine guardK_cases (fun h4 => ?_) (fun h4 => ?_) <;> simp [h4] <;> simp at h4
  · exact endA_eq (by simp [fits]; omega) (by simp)
  refine condK_cases (fun h5 => ?_) (fun h5 => ?_) <;> simp [h5] <;> simp at h5
  · exact endA_eq (by simp [fits]; omega) (by simp)
  refine unroll_next (fun k3 => ?_)
  simp
  exact endA_eq (by simp [fits]; omega) (by simp)
def dA (q : J3) : Dr := compose ⟨1, 0, 0⟩ q.a
def dB (q : J3) : Dr := compose (dA q) q.b
def dC (q : J3) : Dr := compose (dB q) q.c
abbrev dsav (q : J3) : AV := .agg [.int .i64 (dA q).x, .int .i64 (dA q).y, .int .i64 (dA q).n, .int .i64 (dB q).x, .int .i64 (dB q).y, .int .i64 (dB q).n, .int .i64 (dC q).x, .int .i64 (dC q).y, .int .i64 (dC q).n]
theorem add1_pure (q : J3) : Pure Try.prog 51 [.agg [.int .i64 1, .int .i64 0, .int .i64 0], .int .i64 q.a] (dA q).av := Add_pure ⟨1, 0, 0⟩ q.a
theorem add2_pure (q : J3) : Pure Try.prog 51 [(dA q).av, .int .i64 q.b] (dB q).av := Add_pure (dA q) q.b
theorem add3_pure (q : J3) : Pure Try.prog 51 [(dB q).av, .int .i64 q.c] (dC q).av := Add_pure (dB q) q.c
theorem compose1_pure (q : J3) : Pure Try.prog 37 [.agg [.int .i64 1, .int .i64 0, .int .i64 0], .int .i64 q.a] (dA q).av := Compose_pure ⟨1, 0, 0⟩ q.a
theorem compose2_pure (q : J3) : Pure Try.prog 37 [(dA q).av, .int .i64 q.b] (dB q).av := Compose_pure (dA q) q.b
theorem compose3_pure (q : J3) : Pure Try.prog 37 [(dB q).av, .int .i64 q.c] (dC q).av := Compose_pure (dB q) q.c
theorem dirs_pure (a : Ar) (q : J3) : Pure Try.prog 41 [a.av, q.av] (dsav q) := by
  intro σ ns; refine acalls_of_wpc Try.mixed Try.dr41 Try.func41 rfl (Try.fit41 _ rfl) Try.en41 (fun hσ => ?_); simp [Try.ntmps41]
  refine Pure.use_le (add1_pure q) ?_
  simp
  refine Pure.use_le (add2_pure q) ?_
  simp
  refine callT_le (add3_pure q) ?_
  simp
  exact endA_eq (by simp) (by simp)
theorem linkDirections_pure (a : Ar) (q : J3) : Pure Try.prog 26 [a.av, q.av] (dsav q) := by
  intro σ ns; refine acalls_of_wpc Try.mixed Try.dr26 Try.func26 rfl (Try.fit26 _ rfl) Try.en26 (fun hσ => ?_); simp [Try.ntmps26]
  refine wpc_unroll 3 (fun k => ?_)
  simp
  refine Pure.use_le (compose1_pure q) ?_
  simp
  refine unroll_next (fun k1 => ?_)
  simp
  refine Pure.use_le (compose2_pure q) ?_
  simp
  refine unroll_next (fun k1 => ?_)
  simp
  refine Pure.use_le (compose3_pure q) ?_
  simp
  refine unroll_next (fun k1 => ?_)
  simp
  exact endA_eq (by simp) (by simp)
def small (q : J3) : Bool := decide (-1000 ≤ q.a ∧ q.a ≤ 1000) && decide (-1000 ≤ q.b ∧ q.b ≤ 1000) && decide (-1000 ≤ q.c ∧ q.c ≤ 1000)
@[simp] theorem w64_lo : IntKind.wrap .i64 (-1000) = -1000 := by decide
@[simp] theorem w64_hi : IntKind.wrap .i64 1000 = 1000 := by decide
theorem small_pure (q : J3) : Pure Try.prog 18 [q.av] (.bool (small q)) := by
  obtain ⟨q0, q1, q2⟩ := q
  intro σ ns; refine acalls_of_wpc Try.mixed Try.dr18 Try.func18 rfl (Try.fit18 _ rfl) Try.en18 (fun hσ => ?_); simp [Try.ntmps18]
  refine wpc_unroll 3 (fun k => ?_)
  simp
  refine guardK_cases (fun h0 => ?_) (fun h0 => ?_) <;> simp [h0] <;> simp at h0
  · exact endA_eq (by simp [small]; omega) (by simp)
  refine condK_cases (fun h1 => ?_) (fun h1 => ?_) <;> simp [h1] <;> simp at h1
  · exact endA_eq (by simp [small]; omega) (by simp)
  refine unroll_next (fun k1 => ?_)
  simp
  refine guardK_cases (fun h2 => ?_) (fun h2 => ?_) <;> simp [h2] <;> simp at h2
  · exact endA_eq (by simp [small]; omega) (by simp)
  refine condK_cases (fun h3 => ?_) (fun h3 => ?_) <;> simp [h3] <;> simp at h3
  · exact endA_eq (by simp [small]; omega) (by simp)
  refine unroll_next (fun k2 => ?_)
  simp
  refine guardK_cases (fun h4 => ?_) (fun h4 => ?_) <;> simp [h4] <;> simp at h4
  · exact endA_eq (by simp [small]; omega) (by simp)
  refine condK_cases (fun h5 => ?_) (fun h5 => ?_) <;> simp [h5] <;> simp at h5
  · exact endA_eq (by simp [small]; omega) (by simp)
  refine unroll_next (fun k3 => ?_)
  simp
  exact endA_eq (by simp [small]; omega) (by simp)
def J3.lt (p q : J3) : Prop := p.a < q.a ∨ (p.a = q.a ∧ (p.b < q.b ∨ (p.b = q.b ∧ p.c < q.c)))
instance (p q : J3) : Decidable (p.lt q) := by unfold J3.lt; infer_instance
theorem rises_pure (p q : J3) : Pure Try.prog 28 [p.av, q.av] (.bool (decide (p.lt q))) := by
  obtain ⟨p0, p1, p2⟩ := p
  obtain ⟨q0, q1, q2⟩ := q
  intro σ ns; refine acalls_of_wpc Try.mixed Try.dr28 Try.func28 rfl (Try.fit28 _ rfl) Try.en28 (fun hσ => ?_); simp [Try.ntmps28]
  refine wpc_unroll 3 (fun k => ?_)
  simp
  refine condK_cases (fun h1 => ?_) (fun h1 => ?_) <;> simp [h1] <;> simp at h1
  · exact endA_eq (congrArg AV.bool (decide_eq_decide.2 (by simp only [J3.lt]; omega))) (by simp)
  refine unroll_next (fun k1 => ?_)
  simp
  refine condK_cases (fun h2 => ?_) (fun h2 => ?_) <;> simp [h2] <;> simp at h2
  · exact endA_eq (congrArg AV.bool (decide_eq_decide.2 (by simp only [J3.lt]; omega))) (by simp)
  refine unroll_next (fun k2 => ?_)
  simp
  refine condK_cases (fun h3 => ?_) (fun h3 => ?_) <;> simp [h3] <;> simp at h3
  · exact endA_eq (congrArg AV.bool (decide_eq_decide.2 (by simp only [J3.lt]; omega))) (by simp)
  refine unroll_next (fun k3 => ?_)
  simp
  exact endA_eq (congrArg AV.bool (decide_eq_false (by simp only [J3.lt]; omega)).symm) (by simp)
/-- The larger of two. -/
def mx (a b : Int) : Int := if a < b then b else a
theorem mx_eq (a b : Int) : (if a < b then b else a) = mx a b := rfl
def dist (p q : J3) : Int := mx (p.a - q.a) (q.a - p.a) + mx (p.b - q.b) (q.b - p.b) + mx (p.c - q.c) (q.c - p.c)
theorem small_spec {q : J3} (h : small q = true) : (-1000 ≤ q.a ∧ q.a ≤ 1000) ∧ (-1000 ≤ q.b ∧ q.b ≤ 1000) ∧ -1000 ≤ q.c ∧ q.c ≤ 1000 := by
  simp [small] at h; exact ⟨h.1.1, h.1.2, h.2⟩
theorem distance_pure (p q : J3) (hp : small p = true) (hq : small q = true) : Pure Try.prog 24 [p.av, q.av] (.int .i64 (dist p q)) := by
  have h1 := small_spec hp
  have h2 := small_spec hq
  obtain ⟨p0, p1, p2⟩ := p
  obtain ⟨q0, q1, q2⟩ := q
  simp only at h1 h2
  have w1 : ∀ x y : Int, -1000 ≤ x → x ≤ 1000 → -1000 ≤ y → y ≤ 1000 → IntKind.wrap .i64 (x - y) = x - y := fun x y _ _ _ _ => wrap64 (by omega) (by omega)
  have a1 := w1 p0 q0 (by omega) (by omega) (by omega) (by omega)
  have a2 := w1 p1 q1 (by omega) (by omega) (by omega) (by omega)
  have a3 := w1 p2 q2 (by omega) (by omega) (by omega) (by omega)
  have b1 := w1 q0 p0 (by omega) (by omega) (by omega) (by omega)
  have b2 := w1 q1 p1 (by omega) (by omega) (by omega) (by omega)
  have b3 := w1 q2 p2 (by omega) (by omega) (by omega) (by omega)
  intro σ ns; refine acalls_of_wpc Try.mixed Try.dr24 Try.func24 rfl (Try.fit24 _ rfl) Try.en24 (fun hσ => ?_); simp [Try.ntmps24]
  refine wpc_unroll 3 (fun k => ?_)
  have c1 : -2000 ≤ mx (p0 - q0) (q0 - p0) ∧ mx (p0 - q0) (q0 - p0) ≤ 2000 := by unfold mx; split <;> omega
  have c2 : -2000 ≤ mx (p1 - q1) (q1 - p1) ∧ mx (p1 - q1) (q1 - p1) ≤ 2000 := by unfold mx; split <;> omega
  have c3 : -2000 ≤ mx (p2 - q2) (q2 - p2) ∧ mx (p2 - q2) (q2 - p2) ≤ 2000 := by unfold mx; split <;> omega
  have d1 : IntKind.wrap .i64 (mx (p0 - q0) (q0 - p0)) = mx (p0 - q0) (q0 - p0) := wrap64 (by omega) (by omega)
  have d2 : IntKind.wrap .i64 (mx (p0 - q0) (q0 - p0) + mx (p1 - q1) (q1 - p1)) = mx (p0 - q0) (q0 - p0) + mx (p1 - q1) (q1 - p1) := wrap64 (by omega) (by omega)
  have d3 : IntKind.wrap .i64 (mx (p0 - q0) (q0 - p0) + mx (p1 - q1) (q1 - p1) + mx (p2 - q2) (q2 - p2)) = mx (p0 - q0) (q0 - p0) + mx (p1 - q1) (q1 - p1) + mx (p2 - q2) (q2 - p2) := wrap64 (by omega) (by omega)
  simp [a1, b1, mx_eq, d1]
  refine unroll_next (fun k1 => ?_)
  simp [a2, b2, mx_eq, d2]
  refine unroll_next (fun k2 => ?_)
  simp [a3, b3, mx_eq, d3]
  refine unroll_next (fun k3 => ?_)
  simp
  exact endA_eq (by simp [dist]) (by simp)
theorem far_pure (p q : J3) (hp : small p = true) (hq : small q = true) : Pure Try.prog 43 [p.av, q.av] (.int .i64 (dist p q)) := by
  have h1 := small_spec hp
  have h2 := small_spec hq
  obtain ⟨p0, p1, p2⟩ := p
  obtain ⟨q0, q1, q2⟩ := q
  simp only at h1 h2
  intro σ ns; refine acalls_of_wpc Try.mixed Try.dr43 Try.func43 rfl (Try.fit43 _ rfl) Try.en43 (fun hσ => ?_); simp [Try.ntmps43]
  refine wpc_unroll 3 (fun k => ?_)
  simp
  have e1 : ∀ x y : Int, y < x → mx (x - y) (y - x) = x - y := fun x y h => if_neg (by omega)
  have e2 : ∀ x y : Int, x ≤ y → mx (x - y) (y - x) = y - x := fun x y h => by unfold mx; split <;> omega
  have w : ∀ s x y : Int, -10000 ≤ s → s ≤ 10000 → -1000 ≤ x → x ≤ 1000 → -1000 ≤ y → y ≤ 1000 → IntKind.wrap .i64 (IntKind.wrap .i64 (s + x) - y) = s + (x - y) := fun s x y _ _ _ _ _ _ => by
    rw [wrap64 (n := s + x) (by omega) (by omega), wrap64 (by omega) (by omega)]; omega
  have w' : ∀ x y : Int, -1000 ≤ x → x ≤ 1000 → -1000 ≤ y → y ≤ 1000 → IntKind.wrap .i64 (IntKind.wrap .i64 x - y) = x - y := fun x y _ _ _ _ => by
    rw [wrap64 (n := x) (by omega) (by omega), wrap64 (by omega) (by omega)]
  refine condK_cases (fun h3 => ?_) (fun h3 => ?_) <;> simp [h3] <;> simp at h3 <;> (refine unroll_next (fun k1 => ?_)) <;> simp <;>
    (refine condK_cases (fun h4 => ?_) (fun h4 => ?_) <;> simp [h4] <;> simp at h4 <;> (refine unroll_next (fun k2 => ?_)) <;> simp <;>
      (refine condK_cases (fun h5 => ?_) (fun h5 => ?_) <;> simp [h5] <;> simp at h5 <;> (refine unroll_next (fun k3 => ?_)) <;> simp))
  all_goals
    refine endA_eq (congrArg (AV.int .i64) ?_) (by simp)
    simp (disch := omega) only [w', w]
    simp only [dist]
    first | rw [e1 _ _ h3] | rw [e2 _ _ h3]
    first | rw [e1 _ _ h4] | rw [e2 _ _ h4]
    first | rw [e1 _ _ h5] | rw [e2 _ _ h5]
end Go.Proofs
