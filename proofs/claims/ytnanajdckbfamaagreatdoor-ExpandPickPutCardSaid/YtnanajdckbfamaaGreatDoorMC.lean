/- W1, W2, W3, W4, W5, W6, L6, joined. -/
import Derived.Test.YtnanajdckbfamaaGreatDoorD
import Derived.Test.YtnanajdckbfamaaGreatDoorMB
/- Walks of the functions of package rotation and of its reference. -/
set_option linter.unusedVariables false
set_option linter.unusedSimpArgs false
set_option maxRecDepth 100000
namespace Go.Proofs
open Go Go.Abs
attribute [local irreducible] wpc aSeq awAny endA guardK condK CallK callT aPlan onlyL takeL aeffK takeE loopG bodyA thenA inBlockA planK

/-! The plain mathematics. -/
abbrev V2 := Int × Int
def quart : List V2 := [(65, 0), (63, 16), (60, 25), (56, 33), (52, 39), (39, 52), (33, 56), (25, 60), (16, 63)]
def left (v : V2) : V2 := (-v.2, v.1)
def turnN : Nat → V2 → V2
  | 0, v => v
  | n + 1, v => left (turnN n v)
def csN (k : Nat) : V2 := turnN (k / 9) ((quart[k % 9]?).getD (0, 0))
def cs (q : Int) : V2 := csN (q % 36).toNat
theorem round_eq (q : Int) : (if q.tmod 36 < 0 then q.tmod 36 + 36 else q.tmod 36) = q % 36 := by
  rw [Int.tmod_eq_emod]; split <;> rename_i h <;> simp at h ⊢ <;> omega
theorem tmod36_bound (q : Int) : -36 < q.tmod 36 ∧ q.tmod 36 < 36 := by
  have := Int.tmod_lt_of_pos q (show (0 : Int) < 36 by omega)
  have h2 := Int.lt_tmod_of_pos q (show (0 : Int) < 36 by omega)
  omega

theorem round_pure (q : Int) : Pure Tryz.prog 136 [.int .i64 q] (.int .i64 (q % 36)) := by
  have hb := tmod36_bound q
  have he := round_eq q
  refine pure_val fun σ ns _ => ?_; refine acalls_of_wpc Tryz.mixed Tryz.dr136 Tryz.func136 rfl (Tryz.fit136 _ rfl) Tryz.en136 (fun hσ => ?_); simp [Tryz.ntmps136]
  refine condK_cases (fun h => ?_) (fun h => ?_)
  · simp at h
    simp
    exact endA_eq (by rw [wrap64 (by omega) (by omega), ← he, if_pos (by omega)]) (by simp)
  · simp at h
    simp
    exact endA_eq (by rw [← he, if_neg (by omega)]) (by simp)
theorem mod_pure (q : Int) : Pure Tryz.prog 146 [.int .i64 q] (.int .i64 (q % 36)) := by
  have hb := tmod36_bound q
  have he := round_eq q
  refine pure_val fun σ ns _ => ?_; refine acalls_of_wpc Tryz.mixed Tryz.dr146 Tryz.func146 rfl (Tryz.fit146 _ rfl) Tryz.en146 (fun hσ => ?_); simp [Tryz.ntmps146]
  refine endA_eq ?_ (by simp)
  rw [wrap64 (by omega) (by omega), Int.tmod_eq_emod_of_nonneg (by omega)]
  congr 1
  rw [← he]; split <;> omega
theorem quarter_pure : Pure Tryz.prog 137 [] (.agg [.int .i64 65, .int .i64 0, .int .i64 63, .int .i64 16, .int .i64 60, .int .i64 25, .int .i64 56, .int .i64 33, .int .i64 52, .int .i64 39, .int .i64 39, .int .i64 52, .int .i64 33, .int .i64 56, .int .i64 25, .int .i64 60, .int .i64 16, .int .i64 63]) := by
  refine pure_val fun σ ns _ => ?_; refine acalls_of_wpc Tryz.mixed Tryz.dr137 Tryz.func137 rfl (Tryz.fit137 _ rfl) Tryz.en137 (fun hσ => ?_); simp [Tryz.ntmps137]
  exact endA_pure (by simp)
abbrev V2.av (v : V2) : AV := .agg [.int .i64 v.1, .int .i64 v.2]
theorem left_pure (v : V2) (h : -9223372036854775808 < v.2 ∧ v.2 ≤ 9223372036854775807) : Pure Tryz.prog 138 [v.av] (left v).av := by
  refine pure_val fun σ ns _ => ?_; refine acalls_of_wpc Tryz.mixed Tryz.dr138 Tryz.func138 rfl (Tryz.fit138 _ rfl) Tryz.en138 (fun hσ => ?_); simp [Tryz.ntmps138]
  exact endA_eq (by simp [left]; rw [wrap64 (by omega) (by omega)]) (by simp)
end Go.Proofs

/- Walks of CosSin and of its reference. -/
set_option linter.unusedVariables false
set_option linter.unusedSimpArgs false
set_option maxRecDepth 100000
namespace Go.Proofs
open Go Go.Abs
attribute [local irreducible] wpc aSeq awAny endA guardK condK CallK callT aPlan onlyL takeL aeffK takeE loopG bodyA thenA inBlockA planK
theorem turnN_bound (v : V2) (h : -65 ≤ v.1 ∧ v.1 ≤ 65 ∧ -65 ≤ v.2 ∧ v.2 ≤ 65) : ∀ n, -65 ≤ (turnN n v).1 ∧ (turnN n v).1 ≤ 65 ∧ -65 ≤ (turnN n v).2 ∧ (turnN n v).2 ≤ 65
  | 0 => h
  | n + 1 => by have := turnN_bound v h n; simp only [turnN, left]; omega
theorem quart_bound (k : Nat) : -65 ≤ ((quart[k]?).getD (0, 0)).1 ∧ ((quart[k]?).getD (0, 0)).1 ≤ 65 ∧ -65 ≤ ((quart[k]?).getD (0, 0)).2 ∧ ((quart[k]?).getD (0, 0)).2 ≤ 65 := by
  by_cases h : k < 9
  · have : ∀ k : Fin 9, -65 ≤ ((quart[k.val]?).getD (0, 0)).1 ∧ ((quart[k.val]?).getD (0, 0)).1 ≤ 65 ∧ -65 ≤ ((quart[k.val]?).getD (0, 0)).2 ∧ ((quart[k.val]?).getD (0, 0)).2 ≤ 65 := by decide
    exact this ⟨k, h⟩
  · rw [List.getElem?_eq_none (by simp [quart]; omega)]; simp
theorem cs_bound (q : Int) : -65 ≤ (cs q).1 ∧ (cs q).1 ≤ 65 ∧ -65 ≤ (cs q).2 ∧ (cs q).2 ≤ 65 := turnN_bound _ (quart_bound _) _
def quartL : List AV := [.int .i64 65, .int .i64 0, .int .i64 63, .int .i64 16, .int .i64 60, .int .i64 25, .int .i64 56, .int .i64 33, .int .i64 52, .int .i64 39, .int .i64 39, .int .i64 52, .int .i64 33, .int .i64 56, .int .i64 25, .int .i64 60, .int .i64 16, .int .i64 63]
theorem quartL_cells : ∀ j : Nat, j < 9 → (quartL.drop (j * 2)).take 2 = [.int .i64 ((quart[j]?).getD (0, 0)).1, .int .i64 ((quart[j]?).getD (0, 0)).2]
  | 0, _ => rfl | 1, _ => rfl | 2, _ => rfl | 3, _ => rfl | 4, _ => rfl | 5, _ => rfl | 6, _ => rfl | 7, _ => rfl | 8, _ => rfl
theorem CosSin_pure (q : Int) : Pure Tryz.prog 122 [.int .i64 q] (.tup [.int .i64 (cs q).1, .int .i64 (cs q).2]) := by
  refine pure_val fun σ ns _ => ?_; refine acalls_of_wpc Tryz.mixed Tryz.dr122 Tryz.func122 rfl (Tryz.fit122 _ rfl) Tryz.en122 (fun hσ => ?_); simp [Tryz.ntmps122]
  refine Pure.use_le (round_pure q) ?_
  obtain ⟨k, hk, hk36⟩ : ∃ k : Nat, q % 36 = k ∧ k < 36 := ⟨(q % 36).toNat, by omega, by omega⟩
  simp [hk]
  refine Pure.use_le quarter_pure ?_
  have h9 : (k : Int).tmod 9 = ((k % 9 : Nat) : Int) := by rw [Int.tmod_eq_emod_of_nonneg (by omega)]; omega
  have hd : (k : Int).tdiv 9 = ((k / 9 : Nat) : Int) := by rw [Int.tdiv_eq_ediv_of_nonneg (by omega)]; omega
  have h0 : (0 : Int) ≤ (k : Int) % 9 := by omega
  have h1 : (k : Int) % 9 < 9 := by omega
  have h2 : ((k : Int) % 9).toNat = k % 9 := by omega
  have hq := quartL_cells (k % 9) (by omega)
  have hb := quart_bound (k % 9)
  have hcs : cs q = turnN (k / 9) ((quart[k % 9]?).getD (0, 0)) := by simp [cs, csN, hk]
  generalize (quart[k % 9]?).getD (0, 0) = v at hq hb hcs
  simp only [quartL] at hq
  simp [h9, h0, h1, h2, hq]
  refine wpc_loop (fun i : Nat => [(21, .any), (22, .any), (23, .any), (24, .any), (25, .any), (26, .any),  (21, .int .i64 i)]) (fun i => (σ.up ((ns.sub 2).sub 4) (.var [.int .i64 v.1, .int .i64 v.2])).up ((ns.sub 3).sub 5) (.var [.int .i64 (turnN i v).1, .int .i64 (turnN i v).2])) (fun i => k / 9 - i) (fun i => i ≤ k / 9) 0 (by simp) ?_ ?_ ?_
  · simp
    (repeat' first | exact AVsle.nil | refine AVsle.cons (AVle.any _) ?_ | refine AVsle.cons (AVle.refl _) ?_ | refine AVsle.cons AVLe.le ?_)
  · exact .refl _
  intro i r hi
  simp
  refine condK_cases (fun h => ?_) (fun h => ?_)
  · simp (disch := omega) [hd, wrap64] at h
    simp
    refine Pure.use_le (left_pure (turnN i v) (by have := turnN_bound v hb i; omega)) ?_
    simp
    refine loopG_normal (i + 1) (by omega) (by omega) ?_ ?_ rfl rfl
    · simp (disch := omega) [wrap64]
      (repeat' first | exact AVsle.nil | refine AVsle.cons (AVle.any _) ?_ | refine AVsle.cons (AVle.refl _) ?_ | refine AVsle.cons AVLe.le ?_)
    · exact .of_eq (by simp [restoreS_up_out, restoreS_left_out, Nm.under_sub, turnN])
  · simp (disch := omega) [hd, wrap64] at h
    obtain rfl : i = k / 9 := by omega
    simp
    exact endA_eq (by simp [hcs]) (by simp)
end Go.Proofs

/- Walks of the other functions of package rotation and of its reference. -/
set_option linter.unusedVariables false
set_option linter.unusedSimpArgs false
set_option maxRecDepth 100000
namespace Go.Proofs
open Go Go.Abs
attribute [local irreducible] wpc aSeq awAny endA guardK condK CallK callT aPlan onlyL takeL aeffK takeE loopG bodyA thenA inBlockA planK
theorem mul_bound {a b A B : Int} (h1 : -A ≤ a) (h2 : a ≤ A) (h3 : -B ≤ b) (h4 : b ≤ B) : -(A * B) ≤ a * b ∧ a * b ≤ A * B := by
  have h : (a * b).natAbs ≤ A.toNat * B.toNat := by
    rw [Int.natAbs_mul]; exact Nat.mul_le_mul (by omega) (by omega)
  have e : ((A.toNat * B.toNat : Nat) : Int) = A * B := by rw [Int.natCast_mul, Int.toNat_of_nonneg (by omega), Int.toNat_of_nonneg (by omega)]
  omega
/-- The cosine and sine, by the reference's tables. -/
def refC : List (List AV) := [[.int .i64 65], [.int .i64 63], [.int .i64 60], [.int .i64 56], [.int .i64 52], [.int .i64 39], [.int .i64 33], [.int .i64 25], [.int .i64 16]]
def refS : List (List AV) := [[.int .i64 0], [.int .i64 16], [.int .i64 25], [.int .i64 33], [.int .i64 39], [.int .i64 52], [.int .i64 56], [.int .i64 60], [.int .i64 63]]
theorem refCS : ∀ j : Nat, j < 9 → refC[j]? = some [.int .i64 ((quart[j]?).getD (0, 0)).1] ∧ refS[j]? = some [.int .i64 ((quart[j]?).getD (0, 0)).2]
  | 0, _ => ⟨rfl, rfl⟩ | 1, _ => ⟨rfl, rfl⟩ | 2, _ => ⟨rfl, rfl⟩ | 3, _ => ⟨rfl, rfl⟩ | 4, _ => ⟨rfl, rfl⟩ | 5, _ => ⟨rfl, rfl⟩ | 6, _ => ⟨rfl, rfl⟩ | 7, _ => ⟨rfl, rfl⟩ | 8, _ => ⟨rfl, rfl⟩
theorem Of_pure (q : Int) : Pure Tryz.prog 135 [.int .i64 q] (.tup [.int .i64 (cs q).1, .int .i64 (cs q).2]) := by
  refine pure_val fun σ ns _ => ?_; refine acalls_of_wpc Tryz.mixed Tryz.dr135 Tryz.func135 rfl (Tryz.fit135 _ rfl) Tryz.en135 (fun hσ => ?_); simp [Tryz.ntmps135]
  refine Pure.use_le (mod_pure q) ?_
  obtain ⟨k, hk, hk36⟩ : ∃ k : Nat, q % 36 = k ∧ k < 36 := ⟨(q % 36).toNat, by omega, by omega⟩
  have h9 : (k : Int).tmod 9 = ((k % 9 : Nat) : Int) := by rw [Int.tmod_eq_emod_of_nonneg (by omega)]; omega
  have hd : (k : Int).tdiv 9 = ((k / 9 : Nat) : Int) := by rw [Int.tdiv_eq_ediv_of_nonneg (by omega)]; omega
  have h0 : (0 : Int) ≤ (k : Int) % 9 := by omega
  have h1 : (k : Int) % 9 < 9 := by omega
  have h2 : ((k : Int) % 9).toNat = k % 9 := by omega
  have hq := refCS (k % 9) (by omega)
  have hb := quart_bound (k % 9)
  have hcs : cs q = turnN (k / 9) ((quart[k % 9]?).getD (0, 0)) := by simp [cs, csN, hk]
  generalize (quart[k % 9]?).getD (0, 0) = v at hq hb hcs
  simp only [refC, refS] at hq
  simp [hk, h9, h0, h1, h2, hq.1, hq.2]
  refine wpc_loop0 (fun i : Nat => [(7, .any), (8, .any), (9, .any), (24, .any), (25, .any), (26, .any), (27, .any), (28, .any), (29, .any), (30, .any), (31, .any), (32, .any),  (7, .int .i64 (turnN i v).1), (8, .int .i64 (turnN i v).2), (9, .int .i64 i)]) (fun i => k / 9 - i) (fun i => i ≤ k / 9) 0 (by simp) ?_ ?_
  · simp [turnN]
    (repeat' first | exact AVsle.nil | refine AVsle.cons (AVle.any _) ?_ | refine AVsle.cons (AVle.refl _) ?_ | refine AVsle.cons AVLe.le ?_)
  intro i r hi
  simp
  have hbi := turnN_bound v hb i
  refine condK_cases (fun h => ?_) (fun h => ?_)
  · simp (disch := omega) [hd, wrap64] at h
    simp (disch := omega) [wrap64]
    refine loopG_normal (i + 1) (by omega) (by omega) ?_ ?_ rfl rfl
    · simp [turnN, left]
      (repeat' first | exact AVsle.nil | refine AVsle.cons (AVle.any _) ?_ | refine AVsle.cons (AVle.refl _) ?_ | refine AVsle.cons AVLe.le ?_)
    · exact .of_eq (by simp)
  · simp (disch := omega) [hd, wrap64] at h
    obtain rfl : i = k / 9 := by omega
    simp
    exact endA_eq (by simp [hcs]) (by simp)
def p65 : Nat → Int
  | 0 => 1
  | 1 => 65
  | 2 => 4225
  | _ => 274625
theorem p65_bound (n : Nat) : 1 ≤ p65 n ∧ p65 n ≤ 274625 := by
  unfold p65; split <;> omega
theorem p65_step {i n : Nat} (h : i < n) (hn : n ≤ 3) : IntKind.wrap .i64 (p65 i * 65) = p65 (i + 1) ∧ IntKind.wrap .i64 (65 * p65 i) = p65 (i + 1) := by
  have : i = 0 ∨ i = 1 ∨ i = 2 := by omega
  rcases this with rfl | rfl | rfl <;> decide
theorem p65_zero : p65 0 = 1 := rfl
theorem p65_one : p65 1 = 65 := rfl
theorem p65_two : p65 2 = 4225 := rfl
theorem p65_three : p65 3 = 274625 := rfl
attribute [irreducible] p65
theorem Pow_pure (n : Nat) (h : n ≤ 3) : Pure Tryz.prog 103 [.int .i64 n] (.int .i64 (p65 n)) := by
  refine pure_val fun σ ns _ => ?_; refine acalls_of_wpc Tryz.mixed Tryz.dr103 Tryz.func103 rfl (Tryz.fit103 _ rfl) Tryz.en103 (fun hσ => ?_); simp [Tryz.ntmps103]
  refine wpc_loop0 (fun i : Nat => [(3, .any), (4, .any), (5, .any), (6, .any), (7, .any), (8, .any), (9, .any), (10, .any), (11, .any),  (3, .int .i64 (p65 i)), (4, .int .i64 i)]) (fun i => n - i) (fun i => i ≤ n) 0 (by simp) ?_ ?_
  · simp [p65_zero]
    (repeat' first | exact AVsle.nil | refine AVsle.cons (AVle.any _) ?_ | refine AVsle.cons (AVle.refl _) ?_ | refine AVsle.cons AVLe.le ?_)
  intro i r hi
  simp
  refine condK_cases (fun h1 => ?_) (fun h1 => ?_)
  · simp at h1
    have hp := p65_step h1 h
    simp (disch := omega) [hp, wrap64]
    refine loopG_normal (i + 1) (by omega) (by omega) ?_ ?_ rfl rfl
    · simp
      (repeat' first | exact AVsle.nil | refine AVsle.cons (AVle.any _) ?_ | refine AVsle.cons (AVle.refl _) ?_ | refine AVsle.cons AVLe.le ?_)
    · exact .of_eq (by simp)
  · simp at h1
    obtain rfl : i = n := by omega
    simp
    exact endA_pure (by simp)
theorem of_pure (n : Nat) (h : n ≤ 3) : Pure Tryz.prog 64 [.int .i64 n] (.int .i64 (p65 n)) := by
  refine pure_val fun σ ns _ => ?_; refine acalls_of_wpc Tryz.mixed Tryz.dr64 Tryz.func64 rfl (Tryz.fit64 _ rfl) Tryz.en64 (fun hσ => ?_); simp [Tryz.ntmps64]
  refine wpc_loop0 (fun i : Nat => [(3, .any), (5, .any), (6, .any), (7, .any), (8, .any), (9, .any),  (3, .int .i64 (p65 i)), (5, .int .i64 i)]) (fun i => n - i) (fun i => i ≤ n) 0 (by simp) ?_ ?_
  · simp [p65_zero]
    (repeat' first | exact AVsle.nil | refine AVsle.cons (AVle.any _) ?_ | refine AVsle.cons (AVle.refl _) ?_ | refine AVsle.cons AVLe.le ?_)
  intro i r hi
  simp
  refine condK_cases (fun h1 => ?_) (fun h1 => ?_)
  · simp at h1
    have hp := p65_step h1 h
    simp (disch := omega) [hp, wrap64]
    refine loopG_normal (i + 1) (by omega) (by omega) ?_ ?_ rfl rfl
    · simp
      (repeat' first | exact AVsle.nil | refine AVsle.cons (AVle.any _) ?_ | refine AVsle.cons (AVle.refl _) ?_ | refine AVsle.cons AVLe.le ?_)
    · exact .of_eq (by simp)
  · simp at h1
    obtain rfl : i = n := by omega
    simp
    exact endA_pure (by simp)
end Go.Proofs

/- Walks: directions and points. -/
set_option linter.unusedVariables false
set_option linter.unusedSimpArgs false
set_option maxRecDepth 100000
namespace Go.Proofs
open Go Go.Abs
attribute [local irreducible] wpc aSeq awAny endA guardK condK CallK callT aPlan onlyL takeL aeffK takeE loopG bodyA thenA inBlockA planK
def opp (q : Int) : Int := if 36 - q % 36 > 18 then 36 - q % 36 - 36 else 36 - q % 36
structure Dr where
  x : Int
  y : Int
  n : Int
  deriving DecidableEq
abbrev Dr.av (d : Dr) : AV := .agg [.int .i64 d.x, .int .i64 d.y, .int .i64 d.n]
def rad (d : Dr) : Int := p65 d.n.toNat
def valid (d : Dr) : Bool := decide (0 ≤ d.n ∧ d.n ≤ 3) && decide (-rad d ≤ d.x ∧ d.x ≤ rad d) && decide (-rad d ≤ d.y ∧ d.y ≤ rad d) && (d.x * d.x + d.y * d.y == rad d * rad d)
theorem within_calls (r n : Int) (h : -9223372036854775808 < r ∧ r ≤ 9223372036854775807) (σ : Store) (ns m : Nm) (hm : σ m = some (.var [.int .i64 r])) :
    ACalls Tryz.prog 121 [.int .i64 n, .ptr m 0] σ ns fun e σ' => e = .ret (.bool (decide (-r ≤ n ∧ n ≤ r))) ∧ σ' = σ := by
  revert ns; intro ns; revert σ; intro σ hm
  refine acalls_of_wpc Tryz.mixed Tryz.dr121 Tryz.func121 rfl (Tryz.fit121 _ rfl) Tryz.en121 (fun hσ => ?_)
  simp (disch := omega) [Tryz.ntmps121, hm, wrap64]
  refine guardK_cases (fun h1 => ?_) (fun h1 => ?_) <;> simp [h1, hm]
  · simp at h1
    exact endA_eq (by simp [h1]) (by simp)
  · simp at h1
    exact endA_eq (by simp; try omega) (by simp)
theorem mul_self_nn (a : Int) : 0 ≤ a * a := by
  rcases Int.le_total 0 a with h | h
  · exact Int.mul_nonneg h h
  · have := Int.mul_nonneg (a := -a) (b := -a) (by omega) (by omega); rwa [Int.neg_mul_neg] at this
theorem sq_bound {a A : Int} (h1 : -A ≤ a) (h2 : a ≤ A) (hA : A ≤ 274625) : 0 ≤ a * a ∧ a * a ≤ 75418890625 := by
  have h := mul_bound (a := a) (b := a) (A := 274625) (B := 274625) (by omega) (by omega) (by omega) (by omega)
  exact ⟨mul_self_nn a, by omega⟩
theorem ValidDirection_pure (d : Dr) : Pure Tryz.prog 96 [d.av] (.bool (valid d)) := by
  obtain ⟨x, y, n⟩ := d
  refine pure_val fun σ ns _ => ?_; refine acalls_of_wpc Tryz.mixed Tryz.dr96 Tryz.func96 rfl (Tryz.fit96 _ rfl) Tryz.en96 (fun hσ => ?_); simp [Tryz.ntmps96]
  by_cases hn : 0 ≤ n ∧ n ≤ 3
  · obtain ⟨n, rfl⟩ := Int.eq_ofNat_of_zero_le hn.1
    have h1 : ¬ ((n : Int) < 0) := by omega
    have h2 : ¬ (3 < (n : Int)) := by omega
    have h3 : n ≤ 3 := by omega
    have hr := p65_bound n
    have hv : valid ⟨x, y, n⟩ = (decide (-p65 n ≤ x ∧ x ≤ p65 n) && decide (-p65 n ≤ y ∧ y ≤ p65 n) && (x * x + y * y == p65 n * p65 n)) := by
      have h4 : (0 : Int) ≤ (n : Int) ∧ (n : Int) ≤ 3 := hn
      unfold valid rad; rw [decide_eq_true h4]; simp only [Int.toNat_natCast, Bool.true_and]
    rw [hv]
    have hp := of_pure n h3
    have hsr := sq_bound (a := p65 n) (A := 274625) (by omega) (by omega) (by omega)
    generalize p65 n = r at hr hv hp hsr ⊢
    simp [h1, h2]
    refine Pure.use_le hp ?_
    simp
    refine CallK.use (within_calls r x (by omega) _ _ _ (by simp)) ?_
    simp
    refine guardK_cases (fun h4 => ?_) (fun h4 => ?_) <;> simp [h4]
    · refine CallK.use (within_calls r y (by omega) _ _ _ (by simp)) ?_
      simp
      refine guardK_cases (fun h5 => ?_) (fun h5 => ?_) <;> simp [h5]
      · simp at h4 h5
        have hx := sq_bound h4.1 h4.2 (by omega)
        have hy := sq_bound h5.1 h5.2 (by omega)
        simp (disch := omega) [wrap64]
        exact endA_eq (by simp [h4, h5]) (by simp)
      · exact endA_eq (by simp at h4 h5; (first | (simp; done) | (simp; omega) | omega)) (by simp)
    · exact endA_eq (by simp at h4; (first | (simp; done) | (simp; omega) | omega)) (by simp)
  · have hv : valid ⟨x, y, n⟩ = false := by simp [valid]; omega
    rw [hv]
    refine guardK_cases (fun h1 => ?_) (fun h1 => ?_) <;> simp [h1]
    · exact endA_pure (by simp)
    · simp at h1
      have h2 : 3 < n := by omega
      simp [h2]
      exact endA_pure (by simp)
theorem Right_pure (d : Dr) : Pure Tryz.prog 68 [d.av] (.bool (valid d)) := by
  obtain ⟨x, y, n⟩ := d
  refine pure_val fun σ ns _ => ?_; refine acalls_of_wpc Tryz.mixed Tryz.dr68 Tryz.func68 rfl (Tryz.fit68 _ rfl) Tryz.en68 (fun hσ => ?_); simp [Tryz.ntmps68]
  by_cases hn : 0 ≤ n ∧ n ≤ 3
  · obtain ⟨n, rfl⟩ := Int.eq_ofNat_of_zero_le hn.1
    have h1 : ¬ ((n : Int) < 0) := by omega
    have h2 : ¬ (3 < (n : Int)) := by omega
    have h3 : n ≤ 3 := by omega
    have hr := p65_bound n
    have hv : valid ⟨x, y, n⟩ = (decide (-p65 n ≤ x ∧ x ≤ p65 n) && decide (-p65 n ≤ y ∧ y ≤ p65 n) && (x * x + y * y == p65 n * p65 n)) := by
      have h4 : (0 : Int) ≤ (n : Int) ∧ (n : Int) ≤ 3 := hn
      unfold valid rad; rw [decide_eq_true h4]; simp only [Int.toNat_natCast, Bool.true_and]
    rw [hv]
    have hp := Pow_pure n h3
    have hsr := sq_bound (a := p65 n) (A := 274625) (by omega) (by omega) (by omega)
    generalize p65 n = r at hr hv hp hsr ⊢
    simp [h1, h2]
    refine Pure.use_le hp ?_
    simp (disch := omega) [wrap64]
    refine guardK_cases (fun h4 => ?_) (fun h4 => ?_) <;> simp [h4]
    · refine guardK_cases (fun h5 => ?_) (fun h5 => ?_) <;> simp [h5]
      · simp (disch := omega) [wrap64]
        refine guardK_cases (fun h6 => ?_) (fun h6 => ?_) <;> simp [h6]
        · refine guardK_cases (fun h7 => ?_) (fun h7 => ?_) <;> simp [h7]
          · simp at h4 h5 h6 h7
            have hx := sq_bound h4 h5 (by omega)
            have hy := sq_bound h6 h7 (by omega)
            simp (disch := omega) [wrap64]
            exact endA_eq (by simp [h4, h5, h6, h7]) (by simp)
          · exact endA_eq (by simp at h4 h5 h6 h7; (first | (simp; done) | (simp; omega) | omega)) (by simp)
        · exact endA_eq (by simp at h4 h5 h6; (first | (simp; done) | (simp; omega) | omega)) (by simp)
      · exact endA_eq (by simp at h4 h5; (first | (simp; done) | (simp; omega) | omega)) (by simp)
    · exact endA_eq (by simp at h4; (first | (simp; done) | (simp; omega) | omega)) (by simp)
  · have hv : valid ⟨x, y, n⟩ = false := by simp [valid]; omega
    rw [hv]
    refine guardK_cases (fun h1 => ?_) (fun h1 => ?_) <;> simp [h1]
    · exact endA_pure (by simp)
    · simp at h1
      have h2 : 3 < n := by omega
      simp [h2]
      exact endA_pure (by simp)
end Go.Proofs

/- Walks: composing, offsets, points. -/
set_option linter.unusedVariables false
set_option linter.unusedSimpArgs false
set_option maxRecDepth 100000
namespace Go.Proofs
open Go Go.Abs
attribute [local irreducible] wpc aSeq awAny endA guardK condK CallK callT aPlan onlyL takeL aeffK takeE loopG bodyA thenA inBlockA planK
def byv (v : V2) (q : Int) : V2 := (v.1 * (cs q).1 - v.2 * (cs q).2, v.1 * (cs q).2 + v.2 * (cs q).1)
/-- The products of a vector and a rotation are small. -/
theorem prods {v : V2} (h : -10000000000 ≤ v.1 ∧ v.1 ≤ 10000000000 ∧ -10000000000 ≤ v.2 ∧ v.2 ≤ 10000000000) (q : Int) :
    (-650000000000 ≤ v.1 * (cs q).1 ∧ v.1 * (cs q).1 ≤ 650000000000) ∧ (-650000000000 ≤ v.2 * (cs q).2 ∧ v.2 * (cs q).2 ≤ 650000000000) ∧ (-650000000000 ≤ v.1 * (cs q).2 ∧ v.1 * (cs q).2 ≤ 650000000000) ∧ (-650000000000 ≤ v.2 * (cs q).1 ∧ v.2 * (cs q).1 ≤ 650000000000) := by
  have hc := cs_bound q
  have a1 := mul_bound (a := v.1) (b := (cs q).1) (A := 10000000000) (B := 65) (by omega) (by omega) (by omega) (by omega)
  have a2 := mul_bound (a := v.2) (b := (cs q).2) (A := 10000000000) (B := 65) (by omega) (by omega) (by omega) (by omega)
  have a3 := mul_bound (a := v.1) (b := (cs q).2) (A := 10000000000) (B := 65) (by omega) (by omega) (by omega) (by omega)
  have a4 := mul_bound (a := v.2) (b := (cs q).1) (A := 10000000000) (B := 65) (by omega) (by omega) (by omega) (by omega)
  omega
theorem by_pure (v : V2) (q : Int) (h : -10000000000 ≤ v.1 ∧ v.1 ≤ 10000000000 ∧ -10000000000 ≤ v.2 ∧ v.2 ≤ 10000000000) : Pure Tryz.prog 97 [v.av, .int .i64 q] (byv v q).av := by
  have hp := prods h q
  refine pure_val fun σ ns _ => ?_; refine acalls_of_wpc Tryz.mixed Tryz.dr97 Tryz.func97 rfl (Tryz.fit97 _ rfl) Tryz.en97 (fun hσ => ?_); simp [Tryz.ntmps97]
  refine Pure.use_le (CosSin_pure q) ?_
  simp (disch := omega) [wrap64]
  exact endA_eq (by simp [byv]) (by simp)
def compose (d : Dr) (q : Int) : Dr := if valid d = false ∨ d.n = 3 then ⟨0, 0, 0⟩ else ⟨(byv (d.x, d.y) q).1, (byv (d.x, d.y) q).2, d.n + 1⟩
theorem rad_bound (d : Dr) : 1 ≤ rad d ∧ rad d ≤ 274625 := p65_bound _
theorem valid_spec {d : Dr} (h : valid d = true) : (0 ≤ d.n ∧ d.n ≤ 3) ∧ (-rad d ≤ d.x ∧ d.x ≤ rad d) ∧ (-rad d ≤ d.y ∧ d.y ≤ rad d) ∧ d.x * d.x + d.y * d.y = rad d * rad d := by
  simp [valid] at h; exact ⟨h.1.1.1, h.1.1.2, h.1.2, h.2⟩
theorem Compose_pure (d : Dr) (q : Int) : Pure Tryz.prog 63 [d.av, .int .i64 q] (compose d q).av := by
  refine pure_val fun σ ns _ => ?_; refine acalls_of_wpc Tryz.mixed Tryz.dr63 Tryz.func63 rfl (Tryz.fit63 _ rfl) Tryz.en63 (fun hσ => ?_); simp [Tryz.ntmps63]
  refine Pure.use_le (ValidDirection_pure d) ?_
  simp
  refine guardK_cases (fun h => ?_) (fun h => ?_) <;> simp at h <;> simp [h]
  · exact endA_eq (by simp [compose, h]) (by simp)
  · refine condK_cases (fun h1 => ?_) (fun h1 => ?_) <;> simp at h1
    · simp
      exact endA_eq (by simp [compose, h1]) (by simp)
    · simp
      have hv := valid_spec h
      have hr := rad_bound d
      refine Pure.use_le (by_pure (d.x, d.y) q (by simp only; omega)) ?_
      simp (disch := omega) [wrap64]
      exact endA_eq (by simp [compose, h, h1]) (by simp)
theorem Add_pure (d : Dr) (q : Int) : Pure Tryz.prog 120 [d.av, .int .i64 q] (compose d q).av := by
  refine pure_val fun σ ns _ => ?_; refine acalls_of_wpc Tryz.mixed Tryz.dr120 Tryz.func120 rfl (Tryz.fit120 _ rfl) Tryz.en120 (fun hσ => ?_); simp [Tryz.ntmps120]
  refine Pure.use_le (Right_pure d) ?_
  simp
  refine guardK_cases (fun h => ?_) (fun h => ?_) <;> simp at h <;> simp [h]
  · exact endA_eq (by simp [compose, h]) (by simp)
  · refine condK_cases (fun h1 => ?_) (fun h1 => ?_) <;> simp at h1
    · simp
      exact endA_eq (by simp [compose, h1]) (by simp)
    · simp
      have hv := valid_spec h
      have hr := rad_bound d
      have hp := prods (v := (d.x, d.y)) (by simp only; omega) q
      simp only at hp
      refine Pure.use_le (Of_pure q) ?_
      simp (disch := omega) [wrap64]
      exact endA_eq (by simp [compose, h, h1, byv]) (by simp)
def offset (d : Dr) (n : Int) : V2 := (n * (4394000 / rad d) * d.x, n * (4394000 / rad d) * d.y)
theorem unit_bound (d : Dr) (hd : 0 ≤ d.n ∧ d.n ≤ 3) : (4394000 : Int).tdiv (rad d) = 4394000 / rad d ∧ 0 ≤ 4394000 / rad d ∧ 4394000 / rad d ≤ 4394000 ∧ 4394000 / rad d * rad d = 4394000 := by
  have : d.n = 0 ∨ d.n = 1 ∨ d.n = 2 ∨ d.n = 3 := by omega
  unfold rad
  rcases this with h | h | h | h <;> rw [h] <;> simp only [show Int.toNat 0 = 0 from rfl, show Int.toNat 1 = 1 from rfl, show Int.toNat 2 = 2 from rfl, show Int.toNat 3 = 3 from rfl, p65_zero, p65_one, p65_two, p65_three] <;> decide
theorem off_bound {d : Dr} (h : valid d = true) {n : Int} (hn : -1000 ≤ n ∧ n ≤ 1000) :
    (-4394000000 ≤ n * (4394000 / rad d) ∧ n * (4394000 / rad d) ≤ 4394000000) ∧ (-1206702250000000 ≤ n * (4394000 / rad d) * d.x ∧ n * (4394000 / rad d) * d.x ≤ 1206702250000000) ∧ (-1206702250000000 ≤ n * (4394000 / rad d) * d.y ∧ n * (4394000 / rad d) * d.y ≤ 1206702250000000) := by
  have hv := valid_spec h
  have hr := rad_bound d
  have hu := unit_bound d hv.1
  have a1 := mul_bound (a := n) (b := 4394000 / rad d) (A := 1000) (B := 4394000) (by omega) (by omega) (by omega) (by omega)
  have a2 := mul_bound (a := n * (4394000 / rad d)) (b := d.x) (A := 4394000000) (B := 274625) (by omega) (by omega) (by omega) (by omega)
  have a3 := mul_bound (a := n * (4394000 / rad d)) (b := d.y) (A := 4394000000) (B := 274625) (by omega) (by omega) (by omega) (by omega)
  omega
theorem Offset_pure (d : Dr) (n : Int) (h : valid d = true) (hn : -1000 ≤ n ∧ n ≤ 1000) : Pure Tryz.prog 39 [d.av, .int .i64 n] (offset d n).av := by
  have hv := valid_spec h
  have hb := off_bound h hn
  have hu := unit_bound d hv.1
  have hr := rad_bound d
  obtain ⟨k, hk⟩ := Int.eq_ofNat_of_zero_le hv.1.1
  have hrk : rad d = p65 k := by simp [rad, hk]
  refine pure_val fun σ ns _ => ?_; refine acalls_of_wpc Tryz.mixed Tryz.dr39 Tryz.func39 rfl (Tryz.fit39 _ rfl) Tryz.en39 (fun hσ => ?_); simp [Tryz.ntmps39]
  rw [hk]
  refine Pure.use_le (of_pure k (by omega)) ?_
  rw [← hrk]
  have h0 : ¬ (rad d = 0) := by omega
  simp (disch := omega) [wrap64, h0, hu.1]
  exact endA_eq (by simp [offset]) (by simp)
theorem Fine_pure (d : Dr) (n : Int) (h : valid d = true) (hn : -1000 ≤ n ∧ n ≤ 1000) : Pure Tryz.prog 119 [d.av, .int .i64 n] (offset d n).av := by
  have hv := valid_spec h
  have hb := off_bound h hn
  have hu := unit_bound d hv.1
  have hr := rad_bound d
  obtain ⟨k, hk⟩ := Int.eq_ofNat_of_zero_le hv.1.1
  have hrk : rad d = p65 k := by simp [rad, hk]
  refine pure_val fun σ ns _ => ?_; refine acalls_of_wpc Tryz.mixed Tryz.dr119 Tryz.func119 rfl (Tryz.fit119 _ rfl) Tryz.en119 (fun hσ => ?_); simp [Tryz.ntmps119]
  rw [hk]
  refine Pure.use_le (Pow_pure k (by omega)) ?_
  rw [← hrk]
  have h0 : ¬ (rad d = 0) := by omega
  simp (disch := omega) [wrap64, h0, hu.1]
  exact endA_eq (by simp [offset]) (by simp)
def rotP (v : V2) (q : Int) : V2 × Bool := if (byv v q).1.tmod 65 ≠ 0 ∨ (byv v q).2.tmod 65 ≠ 0 then ((0, 0), false) else (((byv v q).1.tdiv 65, (byv v q).2.tdiv 65), true)
theorem byv_bound {v : V2} (h : -10000000000 ≤ v.1 ∧ v.1 ≤ 10000000000 ∧ -10000000000 ≤ v.2 ∧ v.2 ≤ 10000000000) (q : Int) :
    -1300000000000 ≤ (byv v q).1 ∧ (byv v q).1 ≤ 1300000000000 ∧ -1300000000000 ≤ (byv v q).2 ∧ (byv v q).2 ≤ 1300000000000 := by
  have := prods h q
  simp only [byv]; omega
theorem tdiv65 {n : Int} (h : -1300000000000 ≤ n ∧ n ≤ 1300000000000) : -1300000000000 ≤ n.tdiv 65 ∧ n.tdiv 65 ≤ 1300000000000 := by
  rcases Int.le_total 0 n with h0 | h0
  · rw [Int.tdiv_eq_ediv_of_nonneg h0]; omega
  · have e : n.tdiv 65 = -((-n).tdiv 65) := by rw [Int.neg_tdiv]; omega
    rw [e, Int.tdiv_eq_ediv_of_nonneg (by omega)]; omega
def may (v : V2) : Bool := decide (-439400000 ≤ v.1) && decide (v.1 ≤ 439400000) && decide (-439400000 ≤ v.2) && decide (v.2 ≤ 439400000)
def pointOf (x y : Int) : V2 := (x.tmod 439400001, y.tmod 439400001)
def dirOf (l : List Int) : Dr := (l.take 3).foldl compose ⟨1, 0, 0⟩
abbrev ints (l : List Int) : List (List AV) := l.map fun n => [.int .i64 n]
end Go.Proofs

/- The walk of the fixed examples; plain mathematics of the laws. -/
set_option linter.unusedVariables false
set_option linter.unusedSimpArgs false
set_option maxRecDepth 100000
namespace Go.Proofs
open Go Go.Abs
attribute [local irreducible] wpc aSeq awAny endA guardK condK CallK callT aPlan onlyL takeL aeffK takeE loopG bodyA thenA inBlockA planK
theorem sq_le {a r : Int} (hr : 0 ≤ r) (h : a * a ≤ r * r) : -r ≤ a ∧ a ≤ r := by
  constructor
  · apply Classical.byContradiction; intro h1
    have h2 := Int.mul_pos (a := -a - r) (b := -a + r) (by omega) (by omega)
    have : (-a - r) * (-a + r) = a * a - r * r := by grind
    omega
  · apply Classical.byContradiction; intro h1
    have h2 := Int.mul_pos (a := a - r) (b := a + r) (by omega) (by omega)
    have : (a - r) * (a + r) = a * a - r * r := by grind
    omega
/-- What holds of each of the 36 rotations holds of all. -/
theorem cs_all {p : V2 → Prop} (h : ∀ k : Fin 36, p (csN k.val)) (q : Int) : p (cs q) := h ⟨(q % 36).toNat, by omega⟩
theorem cs_len (q : Int) : (cs q).1 * (cs q).1 + (cs q).2 * (cs q).2 = 4225 := cs_all (p := fun v => v.1 * v.1 + v.2 * v.2 = 4225) (by decide) q
theorem p65_succ {n : Nat} (h : n < 3) : p65 (n + 1) = 65 * p65 n := by
  have : n = 0 ∨ n = 1 ∨ n = 2 := by omega
  rcases this with rfl | rfl | rfl <;> simp [p65_zero, p65_one, p65_two, p65_three]
theorem compose_valid {d : Dr} (h : valid d = true) (hn : d.n < 3) (q : Int) : valid (compose d q) = true ∧ (compose d q).n = d.n + 1 := by
  have hv := valid_spec h
  have hc := cs_len q
  have e : compose d q = ⟨d.x * (cs q).1 - d.y * (cs q).2, d.x * (cs q).2 + d.y * (cs q).1, d.n + 1⟩ := by
    unfold compose; rw [if_neg (by simp [h]; omega)]; rfl
  have hr : rad (compose d q) = 65 * rad d := by
    rw [e]; unfold rad; rw [← p65_succ (by omega)]; congr 1; simp only; omega
  have hr0 := rad_bound d
  have hsq : (compose d q).x * (compose d q).x + (compose d q).y * (compose d q).y = rad (compose d q) * rad (compose d q) := by
    rw [hr, e]; simp only
    have := hv.2.2.2
    generalize (cs q).1 = c at hc ⊢; generalize (cs q).2 = s at hc ⊢; generalize rad d = r at this ⊢
    grind
  have hx := mul_self_nn (compose d q).x
  have hy := mul_self_nn (compose d q).y
  have b1 := sq_le (a := (compose d q).x) (r := rad (compose d q)) (by omega) (by omega)
  have b2 := sq_le (a := (compose d q).y) (r := rad (compose d q)) (by omega) (by omega)
  have hnn : (compose d q).n = d.n + 1 := by rw [e]
  refine ⟨?_, hnn⟩
  simp only [valid, Bool.and_eq_true, decide_eq_true_eq, beq_iff_eq]
  exact ⟨⟨⟨by omega, b1⟩, b2⟩, hsq⟩
theorem dirOf_valid (l : List Int) : valid (dirOf l) = true := by
  have key : ∀ (l : List Int) (d : Dr), valid d = true → d.n + l.length ≤ 3 → valid (l.foldl compose d) = true := by
    intro l
    induction l with
    | nil => intro d h _; exact h
    | cons q l ih =>
      intro d h hl
      simp only [List.foldl_cons]
      have := compose_valid h (by simp at hl; omega) q
      exact ih _ this.1 (by rw [this.2]; simp at hl; omega)
  exact key _ _ (by simp [valid, rad, p65_zero]) (by simp; omega)
theorem cs_10 : cs 10 = (-16, 63) := by decide
theorem cs_m1 : cs (-1) = (63, -16) := by decide
theorem rotP_a : rotP (65, 130) 1 = ((31, 142), true) := by decide
theorem rotP_b : rotP (1, 0) 1 = ((0, 0), false) := by decide
theorem cs_5 : cs 5 = (39, 52) := by decide
theorem valid_100 : valid ⟨1, 0, 0⟩ = true := by simp [valid, rad, p65_zero]
theorem compose_5 : compose ⟨1, 0, 0⟩ 5 = ⟨39, 52, 1⟩ := by simp [compose, valid_100, byv, cs_5]
theorem valid_d : valid ⟨39, 52, 1⟩ = true := by simp [valid, rad, p65_one]
theorem valid_0 : valid ⟨0, 0, 0⟩ = false := by simp [valid, rad, p65_zero]
theorem offset_5 : offset ⟨39, 52, 1⟩ 5 = (13182000, 17576000) := by simp [offset, rad, p65_one]
end Go.Proofs

/- The walk of RotationInverse: it returns true. -/
set_option linter.unusedVariables false
set_option linter.unusedSimpArgs false
set_option maxRecDepth 100000
namespace Go.Proofs
open Go Go.Abs
attribute [local irreducible] wpc aSeq awAny endA guardK condK CallK callT aPlan onlyL takeL aeffK takeE loopG bodyA thenA inBlockA planK

theorem opp_bound (q : Int) : -17 ≤ opp q ∧ opp q ≤ 18 := by unfold opp; split <;> omega
theorem csN_opp : ∀ k : Fin 36, csN ((36 - k.val) % 36) = ((csN k.val).1, -(csN k.val).2) := by decide
theorem cs_opp (q : Int) : cs (opp q) = ((cs q).1, -(cs q).2) := by
  obtain ⟨k, hk, hk36⟩ : ∃ k : Nat, q % 36 = k ∧ k < 36 := ⟨(q % 36).toNat, by omega, by omega⟩
  have e0 : cs q = csN k := by simp [cs, hk]
  have e1 : cs (opp q) = csN ((36 - k) % 36) := by
    unfold cs; congr 1; unfold opp; split <;> omega
  rw [e0, e1]; exact csN_opp ⟨k, hk36⟩
theorem opp_opp (q : Int) : (opp (opp q) - q.tmod 36).tmod 36 = 0 := by
  have hb := tmod36_bound q
  have he := round_eq q
  apply Int.tmod_eq_zero_of_dvd
  unfold opp
  repeat' split
  all_goals (split at he <;> omega)
/-- Three rotations of the X axis. -/
theorem compose1 (p : Int) : compose ⟨1, 0, 0⟩ p = ⟨(cs p).1, (cs p).2, 1⟩ := by simp [compose, valid_100, byv]
theorem compose3 (p q r : Int) : compose (compose (compose ⟨1, 0, 0⟩ p) q) r = ⟨((cs p).1 * (cs q).1 - (cs p).2 * (cs q).2) * (cs r).1 - ((cs p).1 * (cs q).2 + (cs p).2 * (cs q).1) * (cs r).2, ((cs p).1 * (cs q).1 - (cs p).2 * (cs q).2) * (cs r).2 + ((cs p).1 * (cs q).2 + (cs p).2 * (cs q).1) * (cs r).1, 3⟩ := by
  have v1 := compose_valid valid_100 (by simp) p
  have v2 := compose_valid v1.1 (by rw [v1.2]; simp) q
  have e1 := compose1 p
  have e2 : compose (compose ⟨1, 0, 0⟩ p) q = ⟨(cs p).1 * (cs q).1 - (cs p).2 * (cs q).2, (cs p).1 * (cs q).2 + (cs p).2 * (cs q).1, 2⟩ := by
    rw [e1] at v1 ⊢; unfold compose; rw [if_neg (by simp [v1.1])]; rfl
  rw [e2] at v2 ⊢
  unfold compose; rw [if_neg (by simp [v2.1])]; rfl
end Go.Proofs
