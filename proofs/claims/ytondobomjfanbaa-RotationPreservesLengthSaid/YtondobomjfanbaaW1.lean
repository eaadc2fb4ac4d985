/- Walks of the functions of package rotation and of its reference. -/
import Derived.Test.YtondobomjfanbaaD
import Derived.Test.YtondobomjfanbaaA14
set_option linter.unusedVariables false
set_option linter.unusedSimpArgs false
set_option maxRecDepth 100000
namespace Go.Proofs
open Go Go.Abs
attribute [local irreducible] wpc aSeq awAny endA guardK condK CallK callT aPlan onlyL takeL aeffK takeE loopG bodyA thenA inBlockA planK

/-! The plain mathematics. -/
abbrev V2 := Int × Int
def quart : List V2 := [(65, 0), (63, 16), (60, 25), (56, 33), (52, 39), (39, 52), (33, 56), (25, 60), (16, 63)]
def left (v : V2) : V2 := (-v.2, v.1)
def turnN : Nat → V2 → V2
  | 0, v => v
  | n + 1, v => left (turnN n v)
def csN (k : Nat) : V2 := turnN (k / 9) ((quart[k % 9]?).getD (0, 0))
def cs (q : Int) : V2 := csN (q % 36).toNat
theorem round_eq (q : Int) : (if q.tmod 36 < 0 then q.tmod 36 + 36 else q.tmod 36) = q % 36 := by
  rw [Int.tmod_eq_emod]; split <;> rename_i h <;> simp at h ⊢ <;> omega
theorem tmod36_bound (q : Int) : -36 < q.tmod 36 ∧ q.tmod 36 < 36 := by
  have := Int.tmod_lt_of_pos q (show (0 : Int) < 36 by omega)
  have h2 := Int.lt_tmod_of_pos q (show (0 : Int) < 36 by omega)
  omega

theorem round_pure (q : Int) : Pure Try.prog 28 [.int .i64 q] (.int .i64 (q % 36)) := by
  have hb := tmod36_bound q
  have he := round_eq q
  intro σ ns; refine acalls_of_wpc Try.mixed Try.dr28 Try.func28 rfl (Try.fit28 _ rfl) Try.en28 ?_; simp [Try.ntmps28]
  refine condK_cases (fun h => ?_) (fun h => ?_)
  · simp at h
    simp
    exact endA_eq (by rw [wrap64 (by omega) (by omega), ← he, if_pos (by omega)]) (by simp)
  · simp at h
    simp
    exact endA_eq (by rw [← he, if_neg (by omega)]) (by simp)
theorem mod_pure (q : Int) : Pure Try.prog 31 [.int .i64 q] (.int .i64 (q % 36)) := by
  have hb := tmod36_bound q
  have he := round_eq q
  intro σ ns; refine acalls_of_wpc Try.mixed Try.dr31 Try.func31 rfl (Try.fit31 _ rfl) Try.en31 ?_; simp [Try.ntmps31]
  refine endA_eq ?_ (by simp)
  rw [wrap64 (by omega) (by omega), Int.tmod_eq_emod_of_nonneg (by omega)]
  congr 1
  rw [← he]; split <;> omega
theorem quarter_pure : Pure Try.prog 29 [] (.agg [.int .i64 65, .int .i64 0, .int .i64 63, .int .i64 16, .int .i64 60, .int .i64 25, .int .i64 56, .int .i64 33, .int .i64 52, .int .i64 39, .int .i64 39, .int .i64 52, .int .i64 33, .int .i64 56, .int .i64 25, .int .i64 60, .int .i64 16, .int .i64 63]) := by
  intro σ ns; refine acalls_of_wpc Try.mixed Try.dr29 Try.func29 rfl (Try.fit29 _ rfl) Try.en29 ?_; simp [Try.ntmps29]
  exact endA_pure (by simp)
abbrev V2.av (v : V2) : AV := .agg [.int .i64 v.1, .int .i64 v.2]
theorem left_pure (v : V2) (h : -9223372036854775808 < v.2 ∧ v.2 ≤ 9223372036854775807) : Pure Try.prog 30 [v.av] (left v).av := by
  intro σ ns; refine acalls_of_wpc Try.mixed Try.dr30 Try.func30 rfl (Try.fit30 _ rfl) Try.en30 ?_; simp [Try.ntmps30]
  exact endA_eq (by simp [left]; rw [wrap64 (by omega) (by omega)]) (by simp)
end Go.Proofs
