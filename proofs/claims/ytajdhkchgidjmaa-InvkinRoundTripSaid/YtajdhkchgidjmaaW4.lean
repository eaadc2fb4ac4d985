/- Walks: directions and points. -/
import Derived.Test.YtajdhkchgidjmaaW3
set_option linter.unusedVariables false
set_option linter.unusedSimpArgs false
set_option maxRecDepth 100000
namespace Go.Proofs
open Go Go.Abs
attribute [local irreducible] wpc aSeq awAny endA guardK condK CallK callT aPlan onlyL takeL aeffK takeE loopG bodyA thenA inBlockA planK
def opp (q : Int) : Int := if 36 - q % 36 > 18 then 36 - q % 36 - 36 else 36 - q % 36
structure Dr where
  x : Int
  y : Int
  n : Int
  deriving DecidableEq
abbrev Dr.av (d : Dr) : AV := .agg [.int .i64 d.x, .int .i64 d.y, .int .i64 d.n]
def rad (d : Dr) : Int := p65 d.n.toNat
def valid (d : Dr) : Bool := decide (0 ≤ d.n ∧ d.n ≤ 3) && decide (-rad d ≤ d.x ∧ d.x ≤ rad d) && decide (-rad d ≤ d.y ∧ d.y ≤ rad d) && (d.x * d.x + d.y * d.y == rad d * rad d)
theorem within_calls (r n : Int) (h : -9223372036854775808 < r ∧ r ≤ 9223372036854775807) (σ : Store) (ns m : Nm) (hm : σ m = some (.var [.int .i64 r])) :
    ACalls Try.prog 52 [.int .i64 n, .ptr m 0] σ ns fun e σ' => e = .ret (.bool (decide (-r ≤ n ∧ n ≤ r))) ∧ σ' = σ := by
  revert ns; intro ns; revert σ; intro σ hm
  refine acalls_of_wpc Try.mixed Try.dr52 Try.func52 rfl (Try.fit52 _ rfl) Try.en52 (fun hσ => ?_)
  simp (disch := omega) [Try.ntmps52, hm, wrap64]
  refine guardK_cases (fun h1 => ?_) (fun h1 => ?_) <;> simp [h1, hm]
  · simp at h1
    exact endA_eq (by simp [h1]) (by simp)
  · simp at h1
    exact endA_eq (by simp; try omega) (by simp)
theorem mul_self_nn (a : Int) : 0 ≤ a * a := by
  rcases Int.le_total 0 a with h | h
  · exact Int.mul_nonneg h h
  · have := Int.mul_nonneg (a := -a) (b := -a) (by omega) (by omega); rwa [Int.neg_mul_neg] at this
theorem sq_bound {a A : Int} (h1 : -A ≤ a) (h2 : a ≤ A) (hA : A ≤ 274625) : 0 ≤ a * a ∧ a * a ≤ 75418890625 := by
  have h := mul_bound (a := a) (b := a) (A := 274625) (B := 274625) (by omega) (by omega) (by omega) (by omega)
  exact ⟨mul_self_nn a, by omega⟩
theorem ValidDirection_pure (d : Dr) : Pure Try.prog 48 [d.av] (.bool (valid d)) := by
  obtain ⟨x, y, n⟩ := d
  intro σ ns; refine acalls_of_wpc Try.mixed Try.dr48 Try.func48 rfl (Try.fit48 _ rfl) Try.en48 (fun hσ => ?_); simp [Try.ntmps48]
  by_cases hn : 0 ≤ n ∧ n ≤ 3
  · obtain ⟨n, rfl⟩ := Int.eq_ofNat_of_zero_le hn.1
    have h1 : ¬ ((n : Int) < 0) := by omega
    have h2 : ¬ (3 < (n : Int)) := by omega
    have h3 : n ≤ 3 := by omega
    have hr := p65_bound n
    have hv : valid ⟨x, y, n⟩ = (decide (-p65 n ≤ x ∧ x ≤ p65 n) && decide (-p65 n ≤ y ∧ y ≤ p65 n) && (x * x + y * y == p65 n * p65 n)) := by
      have h4 : (0 : Int) ≤ (n : Int) ∧ (n : Int) ≤ 3 := hn
      unfold valid rad; rw [decide_eq_true h4]; simp only [Int.toNat_natCast, Bool.true_and]
    rw [hv]
    have hp := of_pure n h3
    have hsr := sq_bound (a := p65 n) (A := 274625) (by omega) (by omega) (by omega)
    generalize p65 n = r at hr hv hp hsr ⊢
    simp [h1, h2]
    refine Pure.use_le hp ?_
    simp
    refine CallK.use (within_calls r x (by omega) _ _ _ (by simp)) ?_
    simp
    refine guardK_cases (fun h4 => ?_) (fun h4 => ?_) <;> simp [h4]
    · refine CallK.use (within_calls r y (by omega) _ _ _ (by simp)) ?_
      simp
      refine guardK_cases (fun h5 => ?_) (fun h5 => ?_) <;> simp [h5]
      · simp at h4 h5
        have hx := sq_bound h4.1 h4.2 (by omega)
        have hy := sq_bound h5.1 h5.2 (by omega)
        simp (disch := omega) [wrap64]
        exact endA_eq (by simp [h4, h5]) (by simp)
      · exact endA_eq (by simp at h4 h5; (first | (simp; done) | (simp; omega) | omega)) (by simp)
    · exact endA_eq (by simp at h4; (first | (simp; done) | (simp; omega) | omega)) (by simp)
  · have hv : valid ⟨x, y, n⟩ = false := by simp [valid]; omega
    rw [hv]
    refine guardK_cases (fun h1 => ?_) (fun h1 => ?_) <;> simp [h1]
    · exact endA_pure (by simp)
    · simp at h1
      have h2 : 3 < n := by omega
      simp [h2]
      exact endA_pure (by simp)
theorem Right_pure (d : Dr) : Pure Try.prog 33 [d.av] (.bool (valid d)) := by
  obtain ⟨x, y, n⟩ := d
  intro σ ns; refine acalls_of_wpc Try.mixed Try.dr33 Try.func33 rfl (Try.fit33 _ rfl) Try.en33 (fun hσ => ?_); simp [Try.ntmps33]
  by_cases hn : 0 ≤ n ∧ n ≤ 3
  · obtain ⟨n, rfl⟩ := Int.eq_ofNat_of_zero_le hn.1
    have h1 : ¬ ((n : Int) < 0) := by omega
    have h2 : ¬ (3 < (n : Int)) := by omega
    have h3 : n ≤ 3 := by omega
    have hr := p65_bound n
    have hv : valid ⟨x, y, n⟩ = (decide (-p65 n ≤ x ∧ x ≤ p65 n) && decide (-p65 n ≤ y ∧ y ≤ p65 n) && (x * x + y * y == p65 n * p65 n)) := by
      have h4 : (0 : Int) ≤ (n : Int) ∧ (n : Int) ≤ 3 := hn
      unfold valid rad; rw [decide_eq_true h4]; simp only [Int.toNat_natCast, Bool.true_and]
    rw [hv]
    have hp := Pow_pure n h3
    have hsr := sq_bound (a := p65 n) (A := 274625) (by omega) (by omega) (by omega)
    generalize p65 n = r at hr hv hp hsr ⊢
    simp [h1, h2]
    refine Pure.use_le hp ?_
    simp (disch := omega) [wrap64]
    refine guardK_cases (fun h4 => ?_) (fun h4 => ?_) <;> simp [h4]
    · refine guardK_cases (fun h5 => ?_) (fun h5 => ?_) <;> simp [h5]
      · simp (disch := omega) [wrap64]
        refine guardK_cases (fun h6 => ?_) (fun h6 => ?_) <;> simp [h6]
        · refine guardK_cases (fun h7 => ?_) (fun h7 => ?_) <;> simp [h7]
          · simp at h4 h5 h6 h7
            have hx := sq_bound h4 h5 (by omega)
            have hy := sq_bound h6 h7 (by omega)
            simp (disch := omega) [wrap64]
            exact endA_eq (by simp [h4, h5, h6, h7]) (by simp)
          · exact endA_eq (by simp at h4 h5 h6 h7; (first | (simp; done) | (simp; omega) | omega)) (by simp)
        · exact endA_eq (by simp at h4 h5 h6; (first | (simp; done) | (simp; omega) | omega)) (by simp)
      · exact endA_eq (by simp at h4 h5; (first | (simp; done) | (simp; omega) | omega)) (by simp)
    · exact endA_eq (by simp at h4; (first | (simp; done) | (simp; omega) | omega)) (by simp)
  · have hv : valid ⟨x, y, n⟩ = false := by simp [valid]; omega
    rw [hv]
    refine guardK_cases (fun h1 => ?_) (fun h1 => ?_) <;> simp [h1]
    · exact endA_pure (by simp)
    · simp at h1
      have h2 : 3 < n := by omega
      simp [h2]
      exact endA_pure (by simp)
end Go.Proofs
