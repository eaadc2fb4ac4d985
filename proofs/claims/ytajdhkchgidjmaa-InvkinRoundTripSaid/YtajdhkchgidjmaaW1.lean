/- Walks of the functions of package rotation and of its reference. -/
import Derived.Test.YtajdhkchgidjmaaD
import Derived.Test.YtajdhkchgidjmaaA14
set_option linter.unusedVariables false
set_option linter.unusedSimpArgs false
set_option maxRecDepth 100000
namespace Go.Proofs
open Go Go.Abs
attribute [local irreducible] wpc aSeq awAny endA guardK condK CallK callT aPlan onlyL takeL aeffK takeE loopG bodyA thenA inBlockA planK

/-! The plain mathematics. -/
abbrev V2 := Int × Int
def quart : List V2 := [(65, 0), (63, 16), (60, 25), (56, 33), (52, 39), (39, 52), (33, 56), (25, 60), (16, 63)]
def left (v : V2) : V2 := (-v.2, v.1)
def turnN : Nat → V2 → V2
  | 0, v => v
  | n + 1, v => left (turnN n v)
def csN (k : Nat) : V2 := turnN (k / 9) ((quart[k % 9]?).getD (0, 0))
def cs (q : Int) : V2 := csN (q % 36).toNat
theorem round_eq (q : Int) : (if q.tmod 36 < 0 then q.tmod 36 + 36 else q.tmod 36) = q % 36 := by
  rw [Int.tmod_eq_emod]; split <;> rename_i h <;> simp at h ⊢ <;> omega
theorem tmod36_bound (q : Int) : -36 < q.tmod 36 ∧ q.tmod 36 < 36 := by
  have := Int.tmod_lt_of_pos q (show (0 : Int) < 36 by omega)
  have h2 := Int.lt_tmod_of_pos q (show (0 : Int) < 36 by omega)
  omega

theorem round_pure (q : Int) : Pure Try.prog 55 [.int .i64 q] (.int .i64 (q % 36)) := by
  have hb := tmod36_bound q
  have he := round_eq q
  intro σ ns; refine acalls_of_wpc Try.mixed Try.dr55 Try.func55 rfl (Try.fit55 _ rfl) Try.en55 (fun hσ => ?_); simp [Try.ntmps55]
  refine condK_cases (fun h => ?_) (fun h => ?_)
  · simp at h
    simp
    exact endA_eq (by rw [wrap64 (by omega) (by omega), ← he, if_pos (by omega)]) (by simp)
  · simp at h
    simp
    exact endA_eq (by rw [← he, if_neg (by omega)]) (by simp)
theorem mod_pure (q : Int) : Pure Try.prog 58 [.int .i64 q] (.int .i64 (q % 36)) := by
  have hb := tmod36_bound q
  have he := round_eq q
  intro σ ns; refine acalls_of_wpc Try.mixed Try.dr58 Try.func58 rfl (Try.fit58 _ rfl) Try.en58 (fun hσ => ?_); simp [Try.ntmps58]
  refine endA_eq ?_ (by simp)
  rw [wrap64 (by omega) (by omega), Int.tmod_eq_emod_of_nonneg (by omega)]
  congr 1
  rw [← he]; split <;> omega
theorem quarter_pure : Pure Try.prog 56 [] (.agg [.int .i64 65, .int .i64 0, .int .i64 63, .int .i64 16, .int .i64 60, .int .i64 25, .int .i64 56, .int .i64 33, .int .i64 52, .int .i64 39, .int .i64 39, .int .i64 52, .int .i64 33, .int .i64 56, .int .i64 25, .int .i64 60, .int .i64 16, .int .i64 63]) := by
  intro σ ns; refine acalls_of_wpc Try.mixed Try.dr56 Try.func56 rfl (Try.fit56 _ rfl) Try.en56 (fun hσ => ?_); simp [Try.ntmps56]
  exact endA_pure (by simp)
abbrev V2.av (v : V2) : AV := .agg [.int .i64 v.1, .int .i64 v.2]
theorem left_pure (v : V2) (h : -9223372036854775808 < v.2 ∧ v.2 ≤ 9223372036854775807) : Pure Try.prog 57 [v.av] (left v).av := by
  intro σ ns; refine acalls_of_wpc Try.mixed Try.dr57 Try.func57 rfl (Try.fit57 _ rfl) Try.en57 (fun hσ => ?_); simp [Try.ntmps57]
  exact endA_eq (by simp [left]; rw [wrap64 (by omega) (by omega)]) (by simp)
end Go.Proofs
