/- The walk of RotationInverse: it returns true. -/
import Derived.Test.YtondobomjfanbaaW6
set_option linter.unusedVariables false
set_option linter.unusedSimpArgs false
set_option maxRecDepth 100000
namespace Go.Proofs
open Go Go.Abs
attribute [local irreducible] wpc aSeq awAny endA guardK condK CallK callT aPlan onlyL takeL aeffK takeE loopG bodyA thenA inBlockA planK

theorem opp_bound (q : Int) : -17 ≤ opp q ∧ opp q ≤ 18 := by unfold opp; split <;> omega
theorem csN_opp : ∀ k : Fin 36, csN ((36 - k.val) % 36) = ((csN k.val).1, -(csN k.val).2) := by decide
theorem cs_opp (q : Int) : cs (opp q) = ((cs q).1, -(cs q).2) := by
  obtain ⟨k, hk, hk36⟩ : ∃ k : Nat, q % 36 = k ∧ k < 36 := ⟨(q % 36).toNat, by omega, by omega⟩
  have e0 : cs q = csN k := by simp [cs, hk]
  have e1 : cs (opp q) = csN ((36 - k) % 36) := by
    unfold cs; congr 1; unfold opp; split <;> omega
  rw [e0, e1]; exact csN_opp ⟨k, hk36⟩
theorem opp_opp (q : Int) : (opp (opp q) - q.tmod 36).tmod 36 = 0 := by
  have hb := tmod36_bound q
  have he := round_eq q
  apply Int.tmod_eq_zero_of_dvd
  unfold opp
  repeat' split
  all_goals (split at he <;> omega)
/-- Three rotations of the X axis. -/
theorem compose1 (p : Int) : compose ⟨1, 0, 0⟩ p = ⟨(cs p).1, (cs p).2, 1⟩ := by simp [compose, valid_100, byv]
theorem compose3 (p q r : Int) : compose (compose (compose ⟨1, 0, 0⟩ p) q) r = ⟨((cs p).1 * (cs q).1 - (cs p).2 * (cs q).2) * (cs r).1 - ((cs p).1 * (cs q).2 + (cs p).2 * (cs q).1) * (cs r).2, ((cs p).1 * (cs q).1 - (cs p).2 * (cs q).2) * (cs r).2 + ((cs p).1 * (cs q).2 + (cs p).2 * (cs q).1) * (cs r).1, 3⟩ := by
  have v1 := compose_valid valid_100 (by simp) p
  have v2 := compose_valid v1.1 (by rw [v1.2]; simp) q
  have e1 := compose1 p
  have e2 : compose (compose ⟨1, 0, 0⟩ p) q = ⟨(cs p).1 * (cs q).1 - (cs p).2 * (cs q).2, (cs p).1 * (cs q).2 + (cs p).2 * (cs q).1, 2⟩ := by
    rw [e1] at v1 ⊢; unfold compose; rw [if_neg (by simp [v1.1])]; rfl
  rw [e2] at v2 ⊢
  unfold compose; rw [if_neg (by simp [v2.1])]; rfl
set_option maxHeartbeats 4000000 in
theorem law6 (q p : Int) (hp : -32768 ≤ p ∧ p ≤ 32767) : Pure Try.prog 6 [.int .i64 q, .int .i16 p] (.bool true) := by
  have ho := opp_bound q
  have hoo := opp_opp q
  have hco := cs_opp q
  have hl := cs_len q
  have bq := cs_bound q
  have bp := cs_bound p
  have hc3 := compose3 p q (opp q)
  rw [hco] at hc3
  simp only at hc3
  have e1 : ((cs p).1 * (cs q).1 - (cs p).2 * (cs q).2) * (cs q).1 - ((cs p).1 * (cs q).2 + (cs p).2 * (cs q).1) * -(cs q).2 = 4225 * (cs p).1 := by
    generalize (cs p).1 = a; generalize (cs p).2 = b; generalize (cs q).1 = c at hl ⊢; generalize (cs q).2 = s at hl ⊢
    grind
  have e2 : ((cs p).1 * (cs q).1 - (cs p).2 * (cs q).2) * -(cs q).2 + ((cs p).1 * (cs q).2 + (cs p).2 * (cs q).1) * (cs q).1 = 4225 * (cs p).2 := by
    generalize (cs p).1 = a; generalize (cs p).2 = b; generalize (cs q).1 = c at hl ⊢; generalize (cs q).2 = s at hl ⊢
    grind
  rw [e1, e2] at hc3
  have hop := opp_bound (opp q)
  have hti := tmod36_bound q
  have w1 : IntKind.wrap .i64 (opp (opp q) - q.tmod 36) = opp (opp q) - q.tmod 36 := wrap64 (by omega) (by omega)
  have w2 : IntKind.wrap .i64 (4225 * (cs p).1) = 4225 * (cs p).1 := wrap64 (by omega) (by omega)
  have w3 : IntKind.wrap .i64 (4225 * (cs p).2) = 4225 * (cs p).2 := wrap64 (by omega) (by omega)
  have w4 : IntKind.wrap .i64 (-(cs q).2) = -(cs q).2 := wrap64 (by omega) (by omega)
  have w5 : IntKind.wrap .i64 p = p := wrap64 (by omega) (by omega)
  have w6 : IntKind.wrap .i64 0 = 0 := by decide
  have gO := CosSin_pure (opp q)
  rw [hco] at gO
  have g3 := Compose_pure (compose (compose ⟨1, 0, 0⟩ p) q) (opp q)
  rw [hc3] at g3
  intro σ ns; refine acalls_of_wpc Try.mixed Try.dr6 Try.func6 rfl (Try.fit6 _ rfl) Try.en6 ?_; simp [Try.ntmps6]
  refine Pure.use_le head_pure ?_
  simp
  first | refine Pure.use_le (Inverse_pure q) ?_ | refine callT_le (Inverse_pure q) ?_
  simp
  first | refine Pure.use_le (CosSin_pure q) ?_ | refine callT_le (CosSin_pure q) ?_
  simp
  refine Pure.use_le gO ?_
  simp [w5]
  refine Pure.use_le (args' := [Dr.av ⟨1, 0, 0⟩, .int .i64 p]) (Compose_pure ⟨1, 0, 0⟩ p) ?_
  simp
  first | refine Pure.use_le (Compose_pure (compose ⟨1, 0, 0⟩ p) q) ?_ | refine callT_le (Compose_pure (compose ⟨1, 0, 0⟩ p) q) ?_
  simp
  first | refine Pure.use_le (g3) ?_ | refine callT_le (g3) ?_
  simp [w5]
  first | refine Pure.use_le (CosSin_pure p) ?_ | refine callT_le (CosSin_pure p) ?_
  simp [show -17 ≤ opp q by omega, show opp q ≤ 18 by omega, w4]
  first | refine Pure.use_le (Inverse_pure (opp q)) ?_ | refine callT_le (Inverse_pure (opp q)) ?_
  simp (maxSteps := 1000000) [w1, w2, w3, w4, w6, hoo]
  exact endA_pure (by simp)
end Go.Proofs
