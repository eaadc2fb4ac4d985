/- Plain definitions of points' positions; walks of the reference's geometry. -/
import Derived.Test.YtnanajdckbfamaaGreatDoorME
set_option linter.unusedVariables false
set_option linter.unusedSimpArgs false
set_option maxRecDepth 100000
namespace Go.Proofs
open Go Go.Abs
attribute [local irreducible] wpc aSeq awAny endA guardK condK CallK callT aPlan onlyL takeL aeffK takeE loopG bodyA thenA inBlockA planK roundG assignG bodyI endI YieldK unrollG
/-- A point within the cell. -/
def mayP (p : V2) : Bool := decide (-439400000 ≤ p.1 ∧ p.1 ≤ 439400000 ∧ -439400000 ≤ p.2 ∧ p.2 ≤ 439400000)
def cross (a b p : V2) : Int := (b.1 - a.1) * (p.2 - a.2) - (b.2 - a.2) * (p.1 - a.1)
def sgn (n : Int) : Int := if 0 < n then 1 else if n < 0 then -1 else 0
def betw (a b x : Int) : Bool := decide (a ≤ x ∧ x ≤ b ∨ b ≤ x ∧ x ≤ a)
def onSeg (a b p : V2) : Bool := decide (cross a b p = 0) && (betw a.1 b.1 p.1 && betw a.2 b.2 p.2)
def cutSeg (a b c d : V2) : Bool :=
  onSeg a b c || (onSeg a b d || (onSeg c d a || (onSeg c d b || (decide (sgn (cross a b c) * sgn (cross a b d) < 0) && decide (sgn (cross c d a) * sgn (cross c d b) < 0)))))
@[simp] theorem w64_mext : IntKind.wrap .i64 (-439400000) = -439400000 := by decide
theorem mayP_iff {p : V2} : mayP p = true ↔ (-439400000 ≤ p.1 ∧ p.1 ≤ 439400000) ∧ -439400000 ≤ p.2 ∧ p.2 ≤ 439400000 := by
  simp [mayP]; omega
theorem prod_bd {a b : Int} (A B : Int) (h1 : -A ≤ a ∧ a ≤ A) (h2 : -B ≤ b ∧ b ≤ B) : -(A * B) ≤ a * b ∧ a * b ≤ A * B := mul_bound h1.1 h1.2 h2.1 h2.2
theorem cross_bd {a b p : V2} (ha : mayP a = true) (hb : mayP b = true) (hp : mayP p = true) :
    (-772289440000000000 ≤ (b.1 - a.1) * (p.2 - a.2) ∧ (b.1 - a.1) * (p.2 - a.2) ≤ 772289440000000000) ∧ (-772289440000000000 ≤ (b.2 - a.2) * (p.1 - a.1) ∧ (b.2 - a.2) * (p.1 - a.1) ≤ 772289440000000000) := by
  rw [mayP_iff] at ha hb hp
  have h1 := prod_bd (a := b.1 - a.1) (b := p.2 - a.2) 878800000 878800000 (by omega) (by omega)
  have h2 := prod_bd (a := b.2 - a.2) (b := p.1 - a.1) 878800000 878800000 (by omega) (by omega)
  omega
theorem May3_pure (p : V2) : Pure Tryz.prog 98 [p.av] (.bool (mayP p)) := by
  refine pure_val fun σ ns _ => ?_; refine acalls_of_wpc Tryz.mixed Tryz.dr98 Tryz.func98 rfl (Tryz.fit98 _ rfl) Tryz.en98 (fun hσ => ?_); simp [Tryz.ntmps98]
  (repeat' (first | (refine guardK_cases (fun h => ?_) (fun h => ?_) <;> simp [h]) | (refine condK_cases (fun h => ?_) (fun h => ?_) <;> simp [h])))
  all_goals (refine endA_eq (congrArg AV.bool ?_) (by simp))
  all_goals (rw [Bool.eq_iff_iff]; simp_all [mayP]; try omega)
theorem Cross3_pure (a b p : V2) (ha : mayP a = true) (hb : mayP b = true) (hp : mayP p = true) : Pure Tryz.prog 99 [a.av, b.av, p.av] (.int .i64 (cross a b p)) := by
  have h := cross_bd ha hb hp
  rw [mayP_iff] at ha hb hp
  refine pure_val fun σ ns _ => ?_; refine acalls_of_wpc Tryz.mixed Tryz.dr99 Tryz.func99 rfl (Tryz.fit99 _ rfl) Tryz.en99 (fun hσ => ?_); simp [Tryz.ntmps99]
  simp (disch := omega) [wrap64]
  exact endA_eq (by simp [cross]) (by simp)
theorem sign3_pure (n : Int) : Pure Tryz.prog 124 [.int .i64 n] (.int .i64 (sgn n)) := by
  refine pure_val fun σ ns _ => ?_; refine acalls_of_wpc Tryz.mixed Tryz.dr124 Tryz.func124 rfl (Tryz.fit124 _ rfl) Tryz.en124 (fun hσ => ?_); simp [Tryz.ntmps124]
  (repeat' (first | (refine guardK_cases (fun h => ?_) (fun h => ?_) <;> simp [h]) | (refine condK_cases (fun h => ?_) (fun h => ?_) <;> simp [h])))
  all_goals (refine endA_eq (congrArg (AV.int _) ?_) (by simp))
  all_goals (simp_all [sgn]; try omega)
theorem between3_pure (a b x : Int) : Pure Tryz.prog 139 [.int .i64 a, .int .i64 b, .int .i64 x] (.bool (betw a b x)) := by
  refine pure_val fun σ ns _ => ?_; refine acalls_of_wpc Tryz.mixed Tryz.dr139 Tryz.func139 rfl (Tryz.fit139 _ rfl) Tryz.en139 (fun hσ => ?_); simp [Tryz.ntmps139]
  (repeat' (first | (refine guardK_cases (fun h => ?_) (fun h => ?_) <;> simp [h]) | (refine condK_cases (fun h => ?_) (fun h => ?_) <;> simp [h])))
  all_goals (refine endA_eq (congrArg AV.bool ?_) (by simp))
  all_goals (rw [Bool.eq_iff_iff]; simp_all [betw]; try omega)
theorem cross_abs {a b p : V2} (ha : mayP a = true) (hb : mayP b = true) (hp : mayP p = true) : -1544578880000000000 ≤ cross a b p ∧ cross a b p ≤ 1544578880000000000 := by
  have h := cross_bd ha hb hp
  unfold cross; omega
theorem On3_pure (a b p : V2) (ha : mayP a = true) (hb : mayP b = true) (hp : mayP p = true) : Pure Tryz.prog 123 [a.av, b.av, p.av] (.bool (onSeg a b p)) := by
  refine pure_val fun σ ns _ => ?_; refine acalls_of_wpc Tryz.mixed Tryz.dr123 Tryz.func123 rfl (Tryz.fit123 _ rfl) Tryz.en123 (fun hσ => ?_); simp [Tryz.ntmps123]
  first | refine Pure.use_le (Cross3_pure a b p ha hb hp) ?_ | refine callT_le (Cross3_pure a b p ha hb hp) ?_
  simp
  refine guardK_cases (fun h => ?_) (fun h => ?_) <;> simp [h]
  · first | refine Pure.use_le (between3_pure a.1 b.1 p.1) ?_ | refine callT_le (between3_pure a.1 b.1 p.1) ?_
    simp
    refine guardK_cases (fun h2 => ?_) (fun h2 => ?_) <;> simp [h2]
    · first | refine Pure.use_le (between3_pure a.2 b.2 p.2) ?_ | refine callT_le (between3_pure a.2 b.2 p.2) ?_
      simp
      exact endA_eq (by simp_all [onSeg]) (by simp)
    · exact endA_eq (by simp_all [onSeg]) (by simp)
  · exact endA_eq (by simp_all [onSeg]) (by simp)
theorem sgn_cases (n : Int) : sgn n = 1 ∨ sgn n = 0 ∨ sgn n = -1 := by unfold sgn; split; exact .inl rfl; split; exact .inr (.inr rfl); exact .inr (.inl rfl)
theorem sgn_mul_wrap (a b : Int) : IntKind.wrap .i64 (sgn a * sgn b) = sgn a * sgn b := by
  rcases sgn_cases a with h | h | h <;> rcases sgn_cases b with g | g | g <;> rw [h, g] <;> decide
theorem Cut3_pure (a b c d : V2) (ha : mayP a = true) (hb : mayP b = true) (hc : mayP c = true) (hd : mayP d = true) : Pure Tryz.prog 101 [a.av, b.av, c.av, d.av] (.bool (cutSeg a b c d)) := by
  refine pure_val fun σ ns _ => ?_; refine acalls_of_wpc Tryz.mixed Tryz.dr101 Tryz.func101 rfl (Tryz.fit101 _ rfl) Tryz.en101 (fun hσ => ?_); simp [Tryz.ntmps101]
  first | refine Pure.use_le (On3_pure a b c ha hb hc) ?_ | refine callT_le (On3_pure a b c ha hb hc) ?_
  simp
  refine guardK_cases (fun h1 => ?_) (fun h1 => ?_) <;> simp [h1]
  · exact endA_eq (by simp_all [cutSeg]) (by simp)
  first | refine Pure.use_le (On3_pure a b d ha hb hd) ?_ | refine callT_le (On3_pure a b d ha hb hd) ?_
  simp
  refine guardK_cases (fun h2 => ?_) (fun h2 => ?_) <;> simp [h2]
  · exact endA_eq (by simp_all [cutSeg]) (by simp)
  first | refine Pure.use_le (On3_pure c d a hc hd ha) ?_ | refine callT_le (On3_pure c d a hc hd ha) ?_
  simp
  refine guardK_cases (fun h3 => ?_) (fun h3 => ?_) <;> simp [h3]
  · exact endA_eq (by simp_all [cutSeg]) (by simp)
  first | refine Pure.use_le (On3_pure c d b hc hd hb) ?_ | refine callT_le (On3_pure c d b hc hd hb) ?_
  simp
  refine condK_cases (fun h4 => ?_) (fun h4 => ?_) <;> simp [h4]
  · exact endA_eq (by simp_all [cutSeg]) (by simp)
  first | refine Pure.use_le (Cross3_pure a b c ha hb hc) ?_ | refine callT_le (Cross3_pure a b c ha hb hc) ?_
  simp
  first | refine Pure.use_le (sign3_pure (cross a b c)) ?_ | refine callT_le (sign3_pure (cross a b c)) ?_
  simp
  first | refine Pure.use_le (Cross3_pure a b d ha hb hd) ?_ | refine callT_le (Cross3_pure a b d ha hb hd) ?_
  simp
  first | refine Pure.use_le (sign3_pure (cross a b d)) ?_ | refine callT_le (sign3_pure (cross a b d)) ?_
  simp [sgn_mul_wrap]
  first | refine Pure.use_le (Cross3_pure c d a hc hd ha) ?_ | refine callT_le (Cross3_pure c d a hc hd ha) ?_
  simp
  first | refine Pure.use_le (sign3_pure (cross c d a)) ?_ | refine callT_le (sign3_pure (cross c d a)) ?_
  simp
  first | refine Pure.use_le (Cross3_pure c d b hc hd hb) ?_ | refine callT_le (Cross3_pure c d b hc hd hb) ?_
  simp
  first | refine Pure.use_le (sign3_pure (cross c d b)) ?_ | refine callT_le (sign3_pure (cross c d b)) ?_
  simp [sgn_mul_wrap]
  refine guardK_cases (fun h5 => ?_) (fun h5 => ?_) <;> simp [h5]
  · exact endA_eq (by simp_all [cutSeg]) (by simp)
  · exact endA_eq (by simp_all [cutSeg]; omega) (by simp)
end Go.Proofs
