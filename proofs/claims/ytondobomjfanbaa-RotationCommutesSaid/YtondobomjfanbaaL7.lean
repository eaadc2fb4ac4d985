/- The walk of RotationCommutes: it returns true. -/
import Derived.Test.YtondobomjfanbaaL6
set_option linter.unusedVariables false
set_option linter.unusedSimpArgs false
set_option maxRecDepth 100000
namespace Go.Proofs
open Go Go.Abs
attribute [local irreducible] wpc aSeq awAny endA guardK condK CallK callT aPlan onlyL takeL aeffK takeE loopG bodyA thenA inBlockA planK

set_option maxHeartbeats 4000000 in
theorem law7 (p q r : Int) : Pure Try.prog 7 [.int .i64 p, .int .i64 q, .int .i64 r] (.bool true) := by
  have ea := compose3 p q r
  have eb := compose3 r p q
  have ec := compose3 q r p
  have e1 : ((cs r).1 * (cs p).1 - (cs r).2 * (cs p).2) * (cs q).1 - ((cs r).1 * (cs p).2 + (cs r).2 * (cs p).1) * (cs q).2 = ((cs p).1 * (cs q).1 - (cs p).2 * (cs q).2) * (cs r).1 - ((cs p).1 * (cs q).2 + (cs p).2 * (cs q).1) * (cs r).2 := by grind
  have e2 : ((cs r).1 * (cs p).1 - (cs r).2 * (cs p).2) * (cs q).2 + ((cs r).1 * (cs p).2 + (cs r).2 * (cs p).1) * (cs q).1 = ((cs p).1 * (cs q).1 - (cs p).2 * (cs q).2) * (cs r).2 + ((cs p).1 * (cs q).2 + (cs p).2 * (cs q).1) * (cs r).1 := by grind
  have e3 : ((cs q).1 * (cs r).1 - (cs q).2 * (cs r).2) * (cs p).1 - ((cs q).1 * (cs r).2 + (cs q).2 * (cs r).1) * (cs p).2 = ((cs p).1 * (cs q).1 - (cs p).2 * (cs q).2) * (cs r).1 - ((cs p).1 * (cs q).2 + (cs p).2 * (cs q).1) * (cs r).2 := by grind
  have e4 : ((cs q).1 * (cs r).1 - (cs q).2 * (cs r).2) * (cs p).2 + ((cs q).1 * (cs r).2 + (cs q).2 * (cs r).1) * (cs p).1 = ((cs p).1 * (cs q).1 - (cs p).2 * (cs q).2) * (cs r).2 + ((cs p).1 * (cs q).2 + (cs p).2 * (cs q).1) * (cs r).1 := by grind
  rw [e1, e2] at eb
  rw [e3, e4] at ec
  have v1 := compose_valid valid_100 (by simp) p
  have v2 := compose_valid v1.1 (by rw [v1.2]; simp) q
  have v3 := compose_valid v2.1 (by rw [v2.2, v1.2]; simp) r
  have v4 := v3.1
  have ga := Compose_pure (compose (compose ⟨1, 0, 0⟩ p) q) r
  have gb := Compose_pure (compose (compose ⟨1, 0, 0⟩ r) p) q
  have gc := Compose_pure (compose (compose ⟨1, 0, 0⟩ q) r) p
  rw [ea] at ga v4
  rw [eb] at gb
  rw [ec] at gc
  clear ea eb ec e1 e2 e3 e4 v1 v2 v3
  generalize ((cs p).1 * (cs q).1 - (cs p).2 * (cs q).2) * (cs r).1 - ((cs p).1 * (cs q).2 + (cs p).2 * (cs q).1) * (cs r).2 = x at *
  generalize ((cs p).1 * (cs q).1 - (cs p).2 * (cs q).2) * (cs r).2 + ((cs p).1 * (cs q).2 + (cs p).2 * (cs q).1) * (cs r).1 = y at *
  have g4 := Compose_pure ⟨x, y, 3⟩ p
  have g5 := Compose_pure ⟨x, y, 3⟩ q
  rw [show compose ⟨x, y, 3⟩ p = ⟨0, 0, 0⟩ by simp [compose]] at g4
  rw [show compose ⟨x, y, 3⟩ q = ⟨0, 0, 0⟩ by simp [compose]] at g5
  have gv := ValidDirection_pure ⟨x, y, 3⟩
  rw [v4] at gv
  have gv0 := ValidDirection_pure ⟨0, 0, 0⟩
  rw [valid_0] at gv0
  intro σ ns; refine acalls_of_wpc Try.mixed Try.dr7 Try.func7 rfl (Try.fit7 _ rfl) Try.en7 ?_; simp [Try.ntmps7]
  refine Pure.use_le head_pure ?_
  simp
  refine Pure.use_le (args' := [Dr.av ⟨1, 0, 0⟩, .int .i64 p]) (Compose_pure ⟨1, 0, 0⟩ p) ?_
  simp
  first | refine Pure.use_le (Compose_pure (compose ⟨1, 0, 0⟩ p) q) ?_ | refine callT_le (Compose_pure (compose ⟨1, 0, 0⟩ p) q) ?_
  simp
  first | refine Pure.use_le (ga) ?_ | refine callT_le (ga) ?_
  simp
  refine Pure.use_le (args' := [Dr.av ⟨1, 0, 0⟩, .int .i64 r]) (Compose_pure ⟨1, 0, 0⟩ r) ?_
  simp
  first | refine Pure.use_le (Compose_pure (compose ⟨1, 0, 0⟩ r) p) ?_ | refine callT_le (Compose_pure (compose ⟨1, 0, 0⟩ r) p) ?_
  simp
  first | refine Pure.use_le (gb) ?_ | refine callT_le (gb) ?_
  simp
  refine Pure.use_le (args' := [Dr.av ⟨1, 0, 0⟩, .int .i64 q]) (Compose_pure ⟨1, 0, 0⟩ q) ?_
  simp
  first | refine Pure.use_le (Compose_pure (compose ⟨1, 0, 0⟩ q) r) ?_ | refine callT_le (Compose_pure (compose ⟨1, 0, 0⟩ q) r) ?_
  simp
  first | refine Pure.use_le (gc) ?_ | refine callT_le (gc) ?_
  simp
  first | refine Pure.use_le (gv) ?_ | refine callT_le (gv) ?_
  simp
  first | refine Pure.use_le (g4) ?_ | refine callT_le (g4) ?_
  simp
  first | refine Pure.use_le (g5) ?_ | refine callT_le (g5) ?_
  simp
  first | refine Pure.use_le (gv0) ?_ | refine callT_le (gv0) ?_
  simp
  exact endA_pure (by simp)
end Go.Proofs
