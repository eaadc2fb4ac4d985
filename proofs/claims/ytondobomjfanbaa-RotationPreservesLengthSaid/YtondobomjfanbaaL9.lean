/- The walk of RotationPreservesLength: it returns true. -/
import Derived.Test.YtondobomjfanbaaL6
import Derived.Test.YtondobomjfanbaaL3
import Derived.Test.YtondobomjfanbaaL8
set_option linter.unusedVariables false
set_option linter.unusedSimpArgs false
set_option maxRecDepth 100000
namespace Go.Proofs
open Go Go.Abs
attribute [local irreducible] wpc aSeq awAny endA guardK condK CallK callT aPlan onlyL takeL aeffK takeE loopG bodyA thenA inBlockA planK

theorem cs_9 : cs 9 = (0, 65) := by decide
theorem rotP_9 (v : V2) : rotP v 9 = (left v, true) := by
  unfold rotP byv
  rw [cs_9]
  simp only [Int.mul_zero, Int.zero_sub, Int.zero_add, Int.add_zero]
  have e1 : (-(v.2 * 65)).tmod 65 = 0 := tmod_of_mul (k := -v.2) 65 (by omega)
  have e2 : (v.1 * 65).tmod 65 = 0 := tmod_of_mul (k := v.1) 65 (by omega)
  rw [if_neg (by simp [e1, e2])]
  have e3 : (-(v.2 * 65)).tdiv 65 = -v.2 := by rw [show -(v.2 * 65) = -v.2 * 65 by omega]; exact Int.mul_tdiv_cancel _ (by omega)
  have e4 : (v.1 * 65).tdiv 65 = v.1 := Int.mul_tdiv_cancel _ (by omega)
  simp [left, e3, e4]
/-- What an exact rotation is. -/
theorem rotP_true {v : V2} {q : Int} (h : (rotP v q).2 = true) : 65 * (rotP v q).1.1 = (byv v q).1 ∧ 65 * (rotP v q).1.2 = (byv v q).2 := by
  unfold rotP at h ⊢
  split
  · rename_i hc; rw [if_pos hc] at h; cases h
  · rename_i hc
    simp at hc
    simp only
    exact ⟨Int.mul_tdiv_cancel' (Int.dvd_of_tmod_eq_zero hc.1), Int.mul_tdiv_cancel' (Int.dvd_of_tmod_eq_zero hc.2)⟩
theorem rotP_false {v : V2} {q : Int} (h : (rotP v q).2 = false) : (rotP v q).1 = (0, 0) := by
  unfold rotP at h ⊢
  split
  · rfl
  · rename_i hc; rw [if_neg hc] at h; cases h
/-- .. and that it is one. -/
theorem rotP_of {v a : V2} {q : Int} (h1 : (byv v q).1 = 65 * a.1) (h2 : (byv v q).2 = 65 * a.2) : rotP v q = (a, true) := by
  unfold rotP
  rw [h1, h2, if_neg (by simp [tmod_of_mul (k := a.1) 65 rfl, tmod_of_mul (k := a.2) 65 rfl])]
  simp [Int.mul_tdiv_cancel_left]
theorem byv_len (v : V2) (q : Int) : (byv v q).1 * (byv v q).1 + (byv v q).2 * (byv v q).2 = 4225 * (v.1 * v.1 + v.2 * v.2) := by
  have := cs_len q
  unfold byv; simp only
  generalize (cs q).1 = c at *; generalize (cs q).2 = s at *
  grind
theorem rot_len {v a : V2} {q : Int} (h1 : 65 * a.1 = (byv v q).1) (h2 : 65 * a.2 = (byv v q).2) : a.1 * a.1 + a.2 * a.2 = v.1 * v.1 + v.2 * v.2 := by
  have := byv_len v q
  rw [← h1, ← h2] at this
  have e : 65 * a.1 * (65 * a.1) + 65 * a.2 * (65 * a.2) = 4225 * (a.1 * a.1 + a.2 * a.2) := by grind
  omega
theorem rot_back {v a : V2} {q : Int} (h1 : 65 * a.1 = (byv v q).1) (h2 : 65 * a.2 = (byv v q).2) : rotP a (opp q) = (v, true) := by
  have hl := cs_len q
  have e1 : 65 * (byv a (opp q)).1 = 4225 * v.1 := by
    unfold byv at *; rw [cs_opp]; simp only at *
    generalize (cs q).1 = c at *; generalize (cs q).2 = s at *
    grind
  have e2 : 65 * (byv a (opp q)).2 = 4225 * v.2 := by
    unfold byv at *; rw [cs_opp]; simp only at *
    generalize (cs q).1 = c at *; generalize (cs q).2 = s at *
    grind
  exact rotP_of (by omega) (by omega)
def m65 (p : V2) : V2 := (p.1 - p.1.tmod 65, p.2 - p.2.tmod 65)
theorem m65_rot (p : V2) (q : Int) : (rotP (m65 p) q).2 = true := by
  obtain ⟨x, hx⟩ : ∃ x, (m65 p).1 = 65 * x := ⟨p.1.tdiv 65, by have := Int.mul_tdiv_add_tmod p.1 65; simp only [m65]; omega⟩
  obtain ⟨y, hy⟩ : ∃ y, (m65 p).2 = 65 * y := ⟨p.2.tdiv 65, by have := Int.mul_tdiv_add_tmod p.2 65; simp only [m65]; omega⟩
  rw [rotP_of (a := (x * (cs q).1 - y * (cs q).2, x * (cs q).2 + y * (cs q).1)) (by unfold byv; rw [hx, hy]; grind) (by unfold byv; rw [hx, hy]; grind)]
theorem tmod65 (n : Int) : -65 < n.tmod 65 ∧ n.tmod 65 < 65 := by
  have := Int.tmod_lt_of_pos n (show (0 : Int) < 65 by omega)
  have h2 := Int.lt_tmod_of_pos n (show (0 : Int) < 65 by omega)
  omega
set_option maxHeartbeats 4000000 in
theorem law9 (x y q : Int) (hx : -2147483648 ≤ x ∧ x ≤ 2147483647) (hy : -2147483648 ≤ y ∧ y ≤ 2147483647) : Pure Try.prog 9 [.int .i32 x, .int .i32 y, .int .i64 q] (.bool true) := by
  have hb := pointOf_bound x y
  have gp := Point_pure x y hx hy
  generalize pointOf x y = p at hb gp
  have k1 := tmod65 p.1
  have k2 := tmod65 p.2
  have hm : -439400065 ≤ (m65 p).1 ∧ (m65 p).1 ≤ 439400065 ∧ -439400065 ≤ (m65 p).2 ∧ (m65 p).2 ≤ 439400065 := by simp only [m65]; omega
  have hmr := m65_rot p q
  have hml := rot_len (rotP_true hmr).1 (rotP_true hmr).2
  have ga := RotatePoint_pure p q (by omega)
  have gb := RotatePoint_pure (m65 p) q (by omega)
  have gc := RotatePoint_pure p 9 (by omega)
  rw [rotP_9] at gc
  rw [hmr] at gb
  have gq := RotateQuarter_pure p (by omega)
  have s1 := mul_bound (a := (m65 p).1) (b := (m65 p).1) (A := 500000000) (B := 500000000) (by omega) (by omega) (by omega) (by omega)
  have s2 := mul_bound (a := (m65 p).2) (b := (m65 p).2) (A := 500000000) (B := 500000000) (by omega) (by omega) (by omega) (by omega)
  have s3 := mul_self_nn (rotP (m65 p) q).1.1
  have s4 := mul_self_nn (rotP (m65 p) q).1.2
  have w1 : IntKind.wrap .i64 ((m65 p).1 * (m65 p).1) = (m65 p).1 * (m65 p).1 := wrap64 (by omega) (by omega)
  have w2 : IntKind.wrap .i64 ((m65 p).2 * (m65 p).2) = (m65 p).2 * (m65 p).2 := wrap64 (by omega) (by omega)
  have w3 : IntKind.wrap .i64 ((rotP (m65 p) q).1.1 * (rotP (m65 p) q).1.1) = (rotP (m65 p) q).1.1 * (rotP (m65 p) q).1.1 := wrap64 (by omega) (by omega)
  have w4 : IntKind.wrap .i64 ((rotP (m65 p) q).1.2 * (rotP (m65 p) q).1.2) = (rotP (m65 p) q).1.2 * (rotP (m65 p) q).1.2 := wrap64 (by omega) (by omega)
  have w5 : IntKind.wrap .i64 ((m65 p).1 * (m65 p).1 + (m65 p).2 * (m65 p).2) = (m65 p).1 * (m65 p).1 + (m65 p).2 * (m65 p).2 := wrap64 (by omega) (by omega)
  have d1 : IntKind.wrap .i64 (p.1 - p.1.tmod 65) = (m65 p).1 := wrap64 (by omega) (by omega)
  have d2 : IntKind.wrap .i64 (p.2 - p.2.tmod 65) = (m65 p).2 := wrap64 (by omega) (by omega)
  intro σ ns; refine acalls_of_wpc Try.mixed Try.dr9 Try.func9 rfl (Try.fit9 _ rfl) Try.en9 ?_; simp [Try.ntmps9]
  refine Pure.use_le head_pure ?_
  simp
  first | refine Pure.use_le (gp) ?_ | refine callT_le (gp) ?_
  simp [d1, d2]
  first | refine Pure.use_le (ga) ?_ | refine callT_le (ga) ?_
  simp
  first | refine Pure.use_le (gb) ?_ | refine callT_le (gb) ?_
  simp
  first | refine Pure.use_le (gc) ?_ | refine callT_le (gc) ?_
  simp
  first | refine Pure.use_le (gq) ?_ | refine callT_le (gq) ?_
  simp [w1, w2, w3, w4, hml, w5]
  refine guardK_cases (fun h => ?_) (fun h => ?_) <;> simp at h
  · have h0 := rotP_false h
    simp [h, h0]
    exact endA_pure (by simp)
  · obtain ⟨r1, r2⟩ := rotP_true h
    have hback := rot_back r1 r2
    have hlen := rot_len r1 r2
    simp [h]
    first | refine Pure.use_le (May_pure (rotP p q).1) ?_ | refine callT_le (May_pure (rotP p q).1) ?_
    generalize (rotP p q).1 = a at hback hlen
    have gi := Inverse_pure q
    simp
    refine condK_cases (fun h2 => ?_) (fun h2 => ?_) <;> simp at h2 <;> simp [h2]
    · exact endA_pure (by simp)
    · have hab : -439400000 ≤ a.1 ∧ a.1 ≤ 439400000 ∧ -439400000 ≤ a.2 ∧ a.2 ≤ 439400000 := by simp [may] at h2; omega
      have g2 := RotatePoint_pure a (opp q) (by omega)
      rw [hback] at g2
      have u1 := mul_bound (a := a.1) (b := a.1) (A := 500000000) (B := 500000000) (by omega) (by omega) (by omega) (by omega)
      have u2 := mul_bound (a := a.2) (b := a.2) (A := 500000000) (B := 500000000) (by omega) (by omega) (by omega) (by omega)
      have u3 := mul_bound (a := p.1) (b := p.1) (A := 500000000) (B := 500000000) (by omega) (by omega) (by omega) (by omega)
      have u4 := mul_bound (a := p.2) (b := p.2) (A := 500000000) (B := 500000000) (by omega) (by omega) (by omega) (by omega)
      have v1 : IntKind.wrap .i64 (a.1 * a.1) = a.1 * a.1 := wrap64 (by omega) (by omega)
      have v2 : IntKind.wrap .i64 (a.2 * a.2) = a.2 * a.2 := wrap64 (by omega) (by omega)
      have v3 : IntKind.wrap .i64 (p.1 * p.1) = p.1 * p.1 := wrap64 (by omega) (by omega)
      have v4 : IntKind.wrap .i64 (p.2 * p.2) = p.2 * p.2 := wrap64 (by omega) (by omega)
      have v5 : IntKind.wrap .i64 (p.1 * p.1 + p.2 * p.2) = p.1 * p.1 + p.2 * p.2 := wrap64 (by omega) (by omega)
      first | refine Pure.use_le (gi) ?_ | refine callT_le (gi) ?_
      simp
      first | refine Pure.use_le (g2) ?_ | refine callT_le (g2) ?_
      simp [v1, v2, v3, v4, v5, hlen]
      exact endA_pure (by simp)
end Go.Proofs
