/- Walks of the other functions of package rotation and of its reference. -/
import Derived.Test.YtajdhkchgidjmaaW2
set_option linter.unusedVariables false
set_option linter.unusedSimpArgs false
set_option maxRecDepth 100000
namespace Go.Proofs
open Go Go.Abs
attribute [local irreducible] wpc aSeq awAny endA guardK condK CallK callT aPlan onlyL takeL aeffK takeE loopG bodyA thenA inBlockA planK
theorem mul_bound {a b A B : Int} (h1 : -A ≤ a) (h2 : a ≤ A) (h3 : -B ≤ b) (h4 : b ≤ B) : -(A * B) ≤ a * b ∧ a * b ≤ A * B := by
  have h : (a * b).natAbs ≤ A.toNat * B.toNat := by
    rw [Int.natAbs_mul]; exact Nat.mul_le_mul (by omega) (by omega)
  have e : ((A.toNat * B.toNat : Nat) : Int) = A * B := by rw [Int.natCast_mul, Int.toNat_of_nonneg (by omega), Int.toNat_of_nonneg (by omega)]
  omega
/-- The cosine and sine, by the reference's tables. -/
def refC : List (List AV) := [[.int .i64 65], [.int .i64 63], [.int .i64 60], [.int .i64 56], [.int .i64 52], [.int .i64 39], [.int .i64 33], [.int .i64 25], [.int .i64 16]]
def refS : List (List AV) := [[.int .i64 0], [.int .i64 16], [.int .i64 25], [.int .i64 33], [.int .i64 39], [.int .i64 52], [.int .i64 56], [.int .i64 60], [.int .i64 63]]
theorem refCS : ∀ j : Nat, j < 9 → refC[j]? = some [.int .i64 ((quart[j]?).getD (0, 0)).1] ∧ refS[j]? = some [.int .i64 ((quart[j]?).getD (0, 0)).2]
  | 0, _ => ⟨rfl, rfl⟩ | 1, _ => ⟨rfl, rfl⟩ | 2, _ => ⟨rfl, rfl⟩ | 3, _ => ⟨rfl, rfl⟩ | 4, _ => ⟨rfl, rfl⟩ | 5, _ => ⟨rfl, rfl⟩ | 6, _ => ⟨rfl, rfl⟩ | 7, _ => ⟨rfl, rfl⟩ | 8, _ => ⟨rfl, rfl⟩
theorem Of_pure (q : Int) : Pure Try.prog 54 [.int .i64 q] (.tup [.int .i64 (cs q).1, .int .i64 (cs q).2]) := by
  intro σ ns; refine acalls_of_wpc Try.mixed Try.dr54 Try.func54 rfl (Try.fit54 _ rfl) Try.en54 (fun hσ => ?_); simp [Try.ntmps54]
  refine Pure.use_le (mod_pure q) ?_
  obtain ⟨k, hk, hk36⟩ : ∃ k : Nat, q % 36 = k ∧ k < 36 := ⟨(q % 36).toNat, by omega, by omega⟩
  have h9 : (k : Int).tmod 9 = ((k % 9 : Nat) : Int) := by rw [Int.tmod_eq_emod_of_nonneg (by omega)]; omega
  have hd : (k : Int).tdiv 9 = ((k / 9 : Nat) : Int) := by rw [Int.tdiv_eq_ediv_of_nonneg (by omega)]; omega
  have h0 : (0 : Int) ≤ (k : Int) % 9 := by omega
  have h1 : (k : Int) % 9 < 9 := by omega
  have h2 : ((k : Int) % 9).toNat = k % 9 := by omega
  have hq := refCS (k % 9) (by omega)
  have hb := quart_bound (k % 9)
  have hcs : cs q = turnN (k / 9) ((quart[k % 9]?).getD (0, 0)) := by simp [cs, csN, hk]
  generalize (quart[k % 9]?).getD (0, 0) = v at hq hb hcs
  simp only [refC, refS] at hq
  simp [hk, h9, h0, h1, h2, hq.1, hq.2]
  refine wpc_loop0 (fun i : Nat => [(7, .any), (8, .any), (9, .any), (24, .any), (25, .any), (26, .any), (27, .any), (28, .any), (29, .any), (30, .any), (31, .any), (32, .any),  (7, .int .i64 (turnN i v).1), (8, .int .i64 (turnN i v).2), (9, .int .i64 i)]) (fun i => k / 9 - i) (fun i => i ≤ k / 9) 0 (by simp) ?_ ?_
  · simp [turnN]
    (repeat' first | exact AVsle.nil | refine AVsle.cons (AVle.any _) ?_ | refine AVsle.cons (AVle.refl _) ?_ | refine AVsle.cons AVLe.le ?_)
  intro i r hi
  simp
  have hbi := turnN_bound v hb i
  refine condK_cases (fun h => ?_) (fun h => ?_)
  · simp (disch := omega) [hd, wrap64] at h
    simp (disch := omega) [wrap64]
    refine loopG_normal (i + 1) (by omega) (by omega) ?_ ?_ rfl rfl
    · simp [turnN, left]
      (repeat' first | exact AVsle.nil | refine AVsle.cons (AVle.any _) ?_ | refine AVsle.cons (AVle.refl _) ?_ | refine AVsle.cons AVLe.le ?_)
    · exact .of_eq (by simp)
  · simp (disch := omega) [hd, wrap64] at h
    obtain rfl : i = k / 9 := by omega
    simp
    exact endA_eq (by simp [hcs]) (by simp)
def p65 : Nat → Int
  | 0 => 1
  | 1 => 65
  | 2 => 4225
  | _ => 274625
theorem p65_bound (n : Nat) : 1 ≤ p65 n ∧ p65 n ≤ 274625 := by
  unfold p65; split <;> omega
theorem p65_step {i n : Nat} (h : i < n) (hn : n ≤ 3) : IntKind.wrap .i64 (p65 i * 65) = p65 (i + 1) ∧ IntKind.wrap .i64 (65 * p65 i) = p65 (i + 1) := by
  have : i = 0 ∨ i = 1 ∨ i = 2 := by omega
  rcases this with rfl | rfl | rfl <;> decide
theorem p65_zero : p65 0 = 1 := rfl
theorem p65_one : p65 1 = 65 := rfl
theorem p65_two : p65 2 = 4225 := rfl
theorem p65_three : p65 3 = 274625 := rfl
attribute [irreducible] p65
theorem Pow_pure (n : Nat) (h : n ≤ 3) : Pure Try.prog 44 [.int .i64 n] (.int .i64 (p65 n)) := by
  intro σ ns; refine acalls_of_wpc Try.mixed Try.dr44 Try.func44 rfl (Try.fit44 _ rfl) Try.en44 (fun hσ => ?_); simp [Try.ntmps44]
  refine wpc_loop0 (fun i : Nat => [(3, .any), (4, .any), (5, .any), (6, .any), (7, .any), (8, .any), (9, .any), (10, .any), (11, .any),  (3, .int .i64 (p65 i)), (4, .int .i64 i)]) (fun i => n - i) (fun i => i ≤ n) 0 (by simp) ?_ ?_
  · simp [p65_zero]
    (repeat' first | exact AVsle.nil | refine AVsle.cons (AVle.any _) ?_ | refine AVsle.cons (AVle.refl _) ?_ | refine AVsle.cons AVLe.le ?_)
  intro i r hi
  simp
  refine condK_cases (fun h1 => ?_) (fun h1 => ?_)
  · simp at h1
    have hp := p65_step h1 h
    simp (disch := omega) [hp, wrap64]
    refine loopG_normal (i + 1) (by omega) (by omega) ?_ ?_ rfl rfl
    · simp
      (repeat' first | exact AVsle.nil | refine AVsle.cons (AVle.any _) ?_ | refine AVsle.cons (AVle.refl _) ?_ | refine AVsle.cons AVLe.le ?_)
    · exact .of_eq (by simp)
  · simp at h1
    obtain rfl : i = n := by omega
    simp
    exact endA_pure (by simp)
theorem of_pure (n : Nat) (h : n ≤ 3) : Pure Try.prog 46 [.int .i64 n] (.int .i64 (p65 n)) := by
  intro σ ns; refine acalls_of_wpc Try.mixed Try.dr46 Try.func46 rfl (Try.fit46 _ rfl) Try.en46 (fun hσ => ?_); simp [Try.ntmps46]
  refine wpc_loop0 (fun i : Nat => [(3, .any), (5, .any), (6, .any), (7, .any), (8, .any), (9, .any),  (3, .int .i64 (p65 i)), (5, .int .i64 i)]) (fun i => n - i) (fun i => i ≤ n) 0 (by simp) ?_ ?_
  · simp [p65_zero]
    (repeat' first | exact AVsle.nil | refine AVsle.cons (AVle.any _) ?_ | refine AVsle.cons (AVle.refl _) ?_ | refine AVsle.cons AVLe.le ?_)
  intro i r hi
  simp
  refine condK_cases (fun h1 => ?_) (fun h1 => ?_)
  · simp at h1
    have hp := p65_step h1 h
    simp (disch := omega) [hp, wrap64]
    refine loopG_normal (i + 1) (by omega) (by omega) ?_ ?_ rfl rfl
    · simp
      (repeat' first | exact AVsle.nil | refine AVsle.cons (AVle.any _) ?_ | refine AVsle.cons (AVle.refl _) ?_ | refine AVsle.cons AVLe.le ?_)
    · exact .of_eq (by simp)
  · simp at h1
    obtain rfl : i = n := by omega
    simp
    exact endA_pure (by simp)
end Go.Proofs
