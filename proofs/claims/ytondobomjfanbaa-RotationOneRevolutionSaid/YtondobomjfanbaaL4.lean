/- The walk of RotationOneRevolution: it returns true. -/
import Derived.Test.YtondobomjfanbaaW6
set_option linter.unusedVariables false
set_option linter.unusedSimpArgs false
set_option maxRecDepth 100000
namespace Go.Proofs
open Go Go.Abs
attribute [local irreducible] wpc aSeq awAny endA guardK condK CallK callT aPlan onlyL takeL aeffK takeE loopG bodyA thenA inBlockA planK
theorem max4_le {a b c d M : Int} (h1 : a ≤ M) (h2 : b ≤ M) (h3 : c ≤ M) (h4 : d ≤ M) : ¬ (M < max4 a b c d) := by
  unfold max4; repeat' split
  all_goals omega
theorem min4_ge {a b c d M : Int} (h1 : M ≤ a) (h2 : M ≤ b) (h3 : M ≤ c) (h4 : M ≤ d) : ¬ (min4 a b c d < M) := by
  unfold min4; repeat' split
  all_goals omega
theorem csN_of (q : Int) (j : Int) (k : Nat) (hk : q % 36 = k) : cs (q + j) = csN ((((k : Int) + j) % 36).toNat) := by
  unfold cs; congr 2; omega
/-- One revolution: k a rotation, and the next ones. -/
theorem revol : ∀ k : Fin 36, 0 < (csN k.val).1 * (csN ((k.val + 1) % 36)).2 - (csN k.val).2 * (csN ((k.val + 1) % 36)).1 ∧ 101400 ≤ 25 * ((csN k.val).1 * (csN ((k.val + 1) % 36)).1 + (csN k.val).2 * (csN ((k.val + 1) % 36)).2) ∧
    (csN ((k.val + 9) % 36)).1 = -(csN k.val).2 ∧ (csN ((k.val + 9) % 36)).2 = (csN k.val).1 ∧ (csN ((k.val + 18) % 36)).1 = -(csN k.val).1 ∧ (csN ((k.val + 18) % 36)).2 = -(csN k.val).2 := by decide
set_option maxHeartbeats 4000000 in
theorem law4 (q : Int) (hq : -32768 ≤ q ∧ q ≤ 32767) : Pure Try.prog 4 [.int .i16 q] (.bool true) := by
  obtain ⟨k, hk, hk36⟩ : ∃ k : Nat, q % 36 = k ∧ k < 36 := ⟨(q % 36).toNat, by omega, by omega⟩
  have e0 : cs q = csN k := by simp [cs, hk]
  have e1 : cs (q + 1) = csN ((k + 1) % 36) := by rw [csN_of q 1 k hk]; congr 1
  have e2 : cs (q + 36) = csN k := by rw [csN_of q 36 k hk]; congr 1; omega
  have e3 : cs (q + 9) = csN ((k + 9) % 36) := by rw [csN_of q 9 k hk]; congr 1
  have e4 : cs (q + 18) = csN ((k + 18) % 36) := by rw [csN_of q 18 k hk]; congr 1
  obtain ⟨r1, r2, r3, r4, r5, r6⟩ := revol ⟨k, hk36⟩
  simp only at r1 r2 r3 r4 r5 r6
  have b0 := cs_bound q
  have b1 := cs_bound (q + 1)
  have hl := cs_len q
  rw [← e1] at r1 r2
  rw [← e3] at r3 r4
  rw [← e4] at r5 r6
  rw [← e0] at r1 r2 r3 r4 r5 r6 e2
  have g1 := CosSin_pure q
  have g2 := CosSin_pure (q + 1)
  have g3 := CosSin_pure (q + 36)
  have g4 := CosSin_pure (q + 9)
  have g5 := CosSin_pure (q + 18)
  rw [e2] at g3
  rw [r3, r4] at g4
  rw [r5, r6] at g5
  clear e0 e1 e2 e3 e4 r3 r4 r5 r6
  generalize (cs q).1 = c at *
  generalize (cs q).2 = s at *
  generalize (cs (q + 1)).1 = e at *
  generalize (cs (q + 1)).2 = f at *
  have m1 := mul_bound (a := c) (b := c) (A := 65) (B := 65) (by omega) (by omega) (by omega) (by omega)
  have m2 := mul_bound (a := s) (b := s) (A := 65) (B := 65) (by omega) (by omega) (by omega) (by omega)
  have m3 := mul_bound (a := c) (b := f) (A := 65) (B := 65) (by omega) (by omega) (by omega) (by omega)
  have m4 := mul_bound (a := s) (b := e) (A := 65) (B := 65) (by omega) (by omega) (by omega) (by omega)
  have m5 := mul_bound (a := c) (b := e) (A := 65) (B := 65) (by omega) (by omega) (by omega) (by omega)
  have m6 := mul_bound (a := s) (b := f) (A := 65) (B := 65) (by omega) (by omega) (by omega) (by omega)
  have w1 : IntKind.wrap .i64 (c * c) = c * c := wrap64 (by omega) (by omega)
  have w2 : IntKind.wrap .i64 (s * s) = s * s := wrap64 (by omega) (by omega)
  have w3 : IntKind.wrap .i64 (c * f) = c * f := wrap64 (by omega) (by omega)
  have w4 : IntKind.wrap .i64 (s * e) = s * e := wrap64 (by omega) (by omega)
  have w5 : IntKind.wrap .i64 (c * e) = c * e := wrap64 (by omega) (by omega)
  have w6 : IntKind.wrap .i64 (s * f) = s * f := wrap64 (by omega) (by omega)
  have w7 : IntKind.wrap .i64 (c * c + s * s) = c * c + s * s := wrap64 (by omega) (by omega)
  have w8 : IntKind.wrap .i64 (c * f - s * e) = c * f - s * e := wrap64 (by omega) (by omega)
  have w9 : IntKind.wrap .i64 (c * e + s * f) = c * e + s * f := wrap64 (by omega) (by omega)
  have w10 : IntKind.wrap .i64 (25 * (c * e + s * f)) = 25 * (c * e + s * f) := wrap64 (by omega) (by omega)
  have w11 : IntKind.wrap .i64 (-s) = -s := wrap64 (by omega) (by omega)
  have w12 : IntKind.wrap .i64 (-c) = -c := wrap64 (by omega) (by omega)
  have v0 : IntKind.wrap .i64 q = q := wrap64 (by omega) (by omega)
  have v1 : IntKind.wrap .i64 (q + 1) = q + 1 := wrap64 (by omega) (by omega)
  have v2 : IntKind.wrap .i64 (q + 36) = q + 36 := wrap64 (by omega) (by omega)
  have v3 : IntKind.wrap .i64 (q + 9) = q + 9 := wrap64 (by omega) (by omega)
  have v4 : IntKind.wrap .i64 (q + 18) = q + 18 := wrap64 (by omega) (by omega)
  have hx := max4_le b0.2.1 b0.2.2.2 b1.2.1 b1.2.2.2
  have hn := min4_ge b0.1 b0.2.2.1 b1.1 b1.2.2.1
  intro σ ns; refine acalls_of_wpc Try.mixed Try.dr4 Try.func4 rfl (Try.fit4 _ rfl) Try.en4 ?_; simp [Try.ntmps4]
  refine Pure.use_le head_pure ?_
  simp [v0]
  refine Pure.use_le g1 ?_
  simp [v0, v1]
  refine Pure.use_le g2 ?_
  simp [v0, v2]
  refine Pure.use_le g3 ?_
  simp [v0, v3]
  refine Pure.use_le g4 ?_
  simp [v0, v4]
  refine Pure.use_le g5 ?_
  simp (maxSteps := 1000000) [hx, hn, w1, w2, w3, w4, w5, w6, w7, w8, w9, w10, w11, w12, hl, show s * e < c * f by omega, r2, show IntKind.wrap .i64 4225 = 4225 by decide]
  exact endA_pure (by simp)
end Go.Proofs
