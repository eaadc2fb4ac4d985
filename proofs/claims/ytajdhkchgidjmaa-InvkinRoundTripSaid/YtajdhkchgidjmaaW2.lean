/- Walks of CosSin and of its reference. -/
import Derived.Test.YtajdhkchgidjmaaW1
set_option linter.unusedVariables false
set_option linter.unusedSimpArgs false
set_option maxRecDepth 100000
namespace Go.Proofs
open Go Go.Abs
attribute [local irreducible] wpc aSeq awAny endA guardK condK CallK callT aPlan onlyL takeL aeffK takeE loopG bodyA thenA inBlockA planK
theorem turnN_bound (v : V2) (h : -65 ≤ v.1 ∧ v.1 ≤ 65 ∧ -65 ≤ v.2 ∧ v.2 ≤ 65) : ∀ n, -65 ≤ (turnN n v).1 ∧ (turnN n v).1 ≤ 65 ∧ -65 ≤ (turnN n v).2 ∧ (turnN n v).2 ≤ 65
  | 0 => h
  | n + 1 => by have := turnN_bound v h n; simp only [turnN, left]; omega
theorem quart_bound (k : Nat) : -65 ≤ ((quart[k]?).getD (0, 0)).1 ∧ ((quart[k]?).getD (0, 0)).1 ≤ 65 ∧ -65 ≤ ((quart[k]?).getD (0, 0)).2 ∧ ((quart[k]?).getD (0, 0)).2 ≤ 65 := by
  by_cases h : k < 9
  · have : ∀ k : Fin 9, -65 ≤ ((quart[k.val]?).getD (0, 0)).1 ∧ ((quart[k.val]?).getD (0, 0)).1 ≤ 65 ∧ -65 ≤ ((quart[k.val]?).getD (0, 0)).2 ∧ ((quart[k.val]?).getD (0, 0)).2 ≤ 65 := by decide
    exact this ⟨k, h⟩
  · rw [List.getElem?_eq_none (by simp [quart]; omega)]; simp
theorem cs_bound (q : Int) : -65 ≤ (cs q).1 ∧ (cs q).1 ≤ 65 ∧ -65 ≤ (cs q).2 ∧ (cs q).2 ≤ 65 := turnN_bound _ (quart_bound _) _
def quartL : List AV := [.int .i64 65, .int .i64 0, .int .i64 63, .int .i64 16, .int .i64 60, .int .i64 25, .int .i64 56, .int .i64 33, .int .i64 52, .int .i64 39, .int .i64 39, .int .i64 52, .int .i64 33, .int .i64 56, .int .i64 25, .int .i64 60, .int .i64 16, .int .i64 63]
theorem quartL_cells : ∀ j : Nat, j < 9 → (quartL.drop (j * 2)).take 2 = [.int .i64 ((quart[j]?).getD (0, 0)).1, .int .i64 ((quart[j]?).getD (0, 0)).2]
  | 0, _ => rfl | 1, _ => rfl | 2, _ => rfl | 3, _ => rfl | 4, _ => rfl | 5, _ => rfl | 6, _ => rfl | 7, _ => rfl | 8, _ => rfl
theorem CosSin_pure (q : Int) : Pure Try.prog 53 [.int .i64 q] (.tup [.int .i64 (cs q).1, .int .i64 (cs q).2]) := by
  intro σ ns; refine acalls_of_wpc Try.mixed Try.dr53 Try.func53 rfl (Try.fit53 _ rfl) Try.en53 (fun hσ => ?_); simp [Try.ntmps53]
  refine Pure.use_le (round_pure q) ?_
  obtain ⟨k, hk, hk36⟩ : ∃ k : Nat, q % 36 = k ∧ k < 36 := ⟨(q % 36).toNat, by omega, by omega⟩
  simp [hk]
  refine Pure.use_le quarter_pure ?_
  have h9 : (k : Int).tmod 9 = ((k % 9 : Nat) : Int) := by rw [Int.tmod_eq_emod_of_nonneg (by omega)]; omega
  have hd : (k : Int).tdiv 9 = ((k / 9 : Nat) : Int) := by rw [Int.tdiv_eq_ediv_of_nonneg (by omega)]; omega
  have h0 : (0 : Int) ≤ (k : Int) % 9 := by omega
  have h1 : (k : Int) % 9 < 9 := by omega
  have h2 : ((k : Int) % 9).toNat = k % 9 := by omega
  have hq := quartL_cells (k % 9) (by omega)
  have hb := quart_bound (k % 9)
  have hcs : cs q = turnN (k / 9) ((quart[k % 9]?).getD (0, 0)) := by simp [cs, csN, hk]
  generalize (quart[k % 9]?).getD (0, 0) = v at hq hb hcs
  simp only [quartL] at hq
  simp [h9, h0, h1, h2, hq]
  refine wpc_loop (fun i : Nat => [(21, .any), (22, .any), (23, .any), (24, .any), (25, .any), (26, .any),  (21, .int .i64 i)]) (fun i => (σ.up ((ns.sub 2).sub 4) (.var [.int .i64 v.1, .int .i64 v.2])).up ((ns.sub 3).sub 5) (.var [.int .i64 (turnN i v).1, .int .i64 (turnN i v).2])) (fun i => k / 9 - i) (fun i => i ≤ k / 9) 0 (by simp) ?_ ?_ ?_
  · simp
    (repeat' first | exact AVsle.nil | refine AVsle.cons (AVle.any _) ?_ | refine AVsle.cons (AVle.refl _) ?_ | refine AVsle.cons AVLe.le ?_)
  · exact .refl _
  intro i r hi
  simp
  refine condK_cases (fun h => ?_) (fun h => ?_)
  · simp (disch := omega) [hd, wrap64] at h
    simp
    refine Pure.use_le (left_pure (turnN i v) (by have := turnN_bound v hb i; omega)) ?_
    simp
    refine loopG_normal (i + 1) (by omega) (by omega) ?_ ?_ rfl rfl
    · simp (disch := omega) [wrap64]
      (repeat' first | exact AVsle.nil | refine AVsle.cons (AVle.any _) ?_ | refine AVsle.cons (AVle.refl _) ?_ | refine AVsle.cons AVLe.le ?_)
    · exact .of_eq (by simp [restoreS_up_out, restoreS_left_out, Nm.under_sub, turnN])
  · simp (disch := omega) [hd, wrap64] at h
    obtain rfl : i = k / 9 := by omega
    simp
    exact endA_eq (by simp [hcs]) (by simp)
end Go.Proofs
