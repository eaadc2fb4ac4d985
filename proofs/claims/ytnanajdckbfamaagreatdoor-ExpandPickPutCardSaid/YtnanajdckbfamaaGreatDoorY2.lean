/- Expansion, plain laws: the fixed examples. -/
import Derived.Test.YtnanajdckbfamaaGreatDoorX21
import Derived.Test.YtnanajdckbfamaaGreatDoorX14
set_option linter.unusedVariables false
set_option linter.unusedSimpArgs false
set_option maxRecDepth 100000
namespace Go.Proofs
open Go Go.Abs
theorem small13_right : RightC small13 := by decide +kernel
theorem small13_st : StOk (first small13) small13 := by decide +kernel
theorem small13_t1 : thereB ((first small13).setQ 0 ⟨9, -9, 9⟩) small13 0 0 = true := by decide +kernel
theorem small13_t2 : thereB (first small13) small13 0 0 = false := by decide +kernel
theorem small13_f : fits small13.a0 ⟨9, -9, 9⟩ = true := by decide +kernel
theorem small13_far : (reachM (first small13) small13 0 2).2 = false := by decide +kernel
theorem small13_near : (reachM (first small13) small13 0 0).2 = true := by decide +kernel
theorem small13_p : partIx small13 sCap = 0 := by decide +kernel
theorem small13_q : partIx small13 sNut = 1 := by decide +kernel
theorem small13_m : placeIx small13 sMid = 1 := by decide +kernel
def prog1 : List Sm := [(⟨3, 0, sCap, ⟨#[]⟩, 0, j0', j0', 1⟩, []), (⟨6, 0, ⟨#[]⟩, ⟨#[]⟩, 7, j0', j0', 0⟩, []), (⟨3, 0, sCap, ⟨#[]⟩, 0, j0', j0', 9⟩, [])]
def prog2 : List Sm := [(⟨4, 0, ⟨#[]⟩, sMid, 0, j0', j0', 4⟩, [])]
def prog3 : List Sm := [(⟨3, 0, sNut, ⟨#[]⟩, 0, j0', j0', 5⟩, [])]
def near13 : J3 := (reachM (first small13) small13 0 0).1
theorem prog1_run : (playT small13 prog1 (first small13) []).1.2 = [goStep 0 near13, ⟨3, 0, 0, 0, 0, j0', j0'⟩, ⟨5, 0, 0, 0, 7, j0', j0'⟩] ∧ (playT small13 prog1 (first small13) []).2 = (130, 9) := by decide +kernel
theorem prog2_run : (playT small13 prog2 (first small13) []).2 = (131, 4) := by decide +kernel
theorem prog3_run : (playT small13 prog3 (first small13) []).2 = (134, 5) := by decide +kernel
theorem prog1_ok : ∀ x ∈ prog1, SmOk x small13 := by
  intro x hx
  simp [prog1] at hx
  rcases hx with rfl | rfl | rfl
  · exact ⟨fun _ => ⟨.inl (by decide), .inl rfl, fun _ => by rw [small13_p]; decide, by simp⟩, by simp, by simp, by simp⟩
  · exact ⟨fun _ => ⟨.inl (by decide), .inl rfl, by simp, by simp⟩, by simp, by simp, by simp⟩
  · exact ⟨fun _ => ⟨.inl (by decide), .inl rfl, fun _ => by rw [small13_p]; decide, by simp⟩, by simp, by simp, by simp⟩
theorem prog2_ok : ∀ x ∈ prog2, SmOk x small13 := by
  intro x hx
  simp [prog2] at hx
  subst hx
  exact ⟨fun _ => ⟨.inl (by decide), .inl rfl, by simp, fun _ => by rw [small13_m]; decide⟩, by simp, by simp, by simp⟩
theorem prog3_ok : ∀ x ∈ prog3, SmOk x small13 := by
  intro x hx
  simp [prog3] at hx
  subst hx
  exact ⟨fun _ => ⟨.inl (by decide), .inl rfl, fun _ => by rw [small13_q]; decide, by simp⟩, by simp, by simp, by simp⟩
def go13 : Sp := ⟨1, 0, 0, 0, 0, ⟨9, -9, 9⟩, j0'⟩
def take13 : Sp := ⟨3, 0, 0, 0, 0, j0', j0'⟩
def bad13 : Sp := ⟨6, 0, 0, 0, 0, j0', j0'⟩
def v13 : Ws := ⟨⟨9, -9, 9⟩, ⟨9, 0, 0⟩, -1, -1, [0, 2]⟩
def u13 : Ws := ⟨⟨9, -9, 9⟩, ⟨9, 0, 0⟩, 0, -1, [-1, 2]⟩
theorem first13 : first small13 = ⟨⟨9, 0, 0⟩, ⟨9, 0, 0⟩, -1, -1, [0, 2]⟩ := by decide
theorem do1 : refR (first small13) (doE go13 (first small13) small13) = (v13, 0) := by decide +kernel
theorem do2 : refR v13 (doE take13 v13 small13) = (u13, 0) := by decide +kernel
theorem do3 : (refR (first small13) (doE take13 (first small13) small13)).2 = 134 := by decide +kernel
theorem do4 : (refR (first small13) (doE bad13 (first small13) small13)).2 = 1 := by decide +kernel
theorem v13_ok : StOk v13 small13 := by decide +kernel
end Go.Proofs
