/- The walk of RotationInverse: it returns true. -/
import Derived.Test.YtajdhkchgidjmaaW6
set_option linter.unusedVariables false
set_option linter.unusedSimpArgs false
set_option maxRecDepth 100000
namespace Go.Proofs
open Go Go.Abs
attribute [local irreducible] wpc aSeq awAny endA guardK condK CallK callT aPlan onlyL takeL aeffK takeE loopG bodyA thenA inBlockA planK

theorem opp_bound (q : Int) : -17 ≤ opp q ∧ opp q ≤ 18 := by unfold opp; split <;> omega
theorem csN_opp : ∀ k : Fin 36, csN ((36 - k.val) % 36) = ((csN k.val).1, -(csN k.val).2) := by decide
theorem cs_opp (q : Int) : cs (opp q) = ((cs q).1, -(cs q).2) := by
  obtain ⟨k, hk, hk36⟩ : ∃ k : Nat, q % 36 = k ∧ k < 36 := ⟨(q % 36).toNat, by omega, by omega⟩
  have e0 : cs q = csN k := by simp [cs, hk]
  have e1 : cs (opp q) = csN ((36 - k) % 36) := by
    unfold cs; congr 1; unfold opp; split <;> omega
  rw [e0, e1]; exact csN_opp ⟨k, hk36⟩
theorem opp_opp (q : Int) : (opp (opp q) - q.tmod 36).tmod 36 = 0 := by
  have hb := tmod36_bound q
  have he := round_eq q
  apply Int.tmod_eq_zero_of_dvd
  unfold opp
  repeat' split
  all_goals (split at he <;> omega)
/-- Three rotations of the X axis. -/
theorem compose1 (p : Int) : compose ⟨1, 0, 0⟩ p = ⟨(cs p).1, (cs p).2, 1⟩ := by simp [compose, valid_100, byv]
theorem compose3 (p q r : Int) : compose (compose (compose ⟨1, 0, 0⟩ p) q) r = ⟨((cs p).1 * (cs q).1 - (cs p).2 * (cs q).2) * (cs r).1 - ((cs p).1 * (cs q).2 + (cs p).2 * (cs q).1) * (cs r).2, ((cs p).1 * (cs q).1 - (cs p).2 * (cs q).2) * (cs r).2 + ((cs p).1 * (cs q).2 + (cs p).2 * (cs q).1) * (cs r).1, 3⟩ := by
  have v1 := compose_valid valid_100 (by simp) p
  have v2 := compose_valid v1.1 (by rw [v1.2]; simp) q
  have e1 := compose1 p
  have e2 : compose (compose ⟨1, 0, 0⟩ p) q = ⟨(cs p).1 * (cs q).1 - (cs p).2 * (cs q).2, (cs p).1 * (cs q).2 + (cs p).2 * (cs q).1, 2⟩ := by
    rw [e1] at v1 ⊢; unfold compose; rw [if_neg (by simp [v1.1])]; rfl
  rw [e2] at v2 ⊢
  unfold compose; rw [if_neg (by simp [v2.1])]; rfl
end Go.Proofs
