/- The walk of the fixed examples; plain mathematics of the laws. -/
import Derived.Test.YtajdhkchgidjmaaW5
set_option linter.unusedVariables false
set_option linter.unusedSimpArgs false
set_option maxRecDepth 100000
namespace Go.Proofs
open Go Go.Abs
attribute [local irreducible] wpc aSeq awAny endA guardK condK CallK callT aPlan onlyL takeL aeffK takeE loopG bodyA thenA inBlockA planK
theorem sq_le {a r : Int} (hr : 0 ≤ r) (h : a * a ≤ r * r) : -r ≤ a ∧ a ≤ r := by
  constructor
  · apply Classical.byContradiction; intro h1
    have h2 := Int.mul_pos (a := -a - r) (b := -a + r) (by omega) (by omega)
    have : (-a - r) * (-a + r) = a * a - r * r := by grind
    omega
  · apply Classical.byContradiction; intro h1
    have h2 := Int.mul_pos (a := a - r) (b := a + r) (by omega) (by omega)
    have : (a - r) * (a + r) = a * a - r * r := by grind
    omega
/-- What holds of each of the 36 rotations holds of all. -/
theorem cs_all {p : V2 → Prop} (h : ∀ k : Fin 36, p (csN k.val)) (q : Int) : p (cs q) := h ⟨(q % 36).toNat, by omega⟩
theorem cs_len (q : Int) : (cs q).1 * (cs q).1 + (cs q).2 * (cs q).2 = 4225 := cs_all (p := fun v => v.1 * v.1 + v.2 * v.2 = 4225) (by decide) q
theorem p65_succ {n : Nat} (h : n < 3) : p65 (n + 1) = 65 * p65 n := by
  have : n = 0 ∨ n = 1 ∨ n = 2 := by omega
  rcases this with rfl | rfl | rfl <;> simp [p65_zero, p65_one, p65_two, p65_three]
theorem compose_valid {d : Dr} (h : valid d = true) (hn : d.n < 3) (q : Int) : valid (compose d q) = true ∧ (compose d q).n = d.n + 1 := by
  have hv := valid_spec h
  have hc := cs_len q
  have e : compose d q = ⟨d.x * (cs q).1 - d.y * (cs q).2, d.x * (cs q).2 + d.y * (cs q).1, d.n + 1⟩ := by
    unfold compose; rw [if_neg (by simp [h]; omega)]; rfl
  have hr : rad (compose d q) = 65 * rad d := by
    rw [e]; unfold rad; rw [← p65_succ (by omega)]; congr 1; simp only; omega
  have hr0 := rad_bound d
  have hsq : (compose d q).x * (compose d q).x + (compose d q).y * (compose d q).y = rad (compose d q) * rad (compose d q) := by
    rw [hr, e]; simp only
    have := hv.2.2.2
    generalize (cs q).1 = c at hc ⊢; generalize (cs q).2 = s at hc ⊢; generalize rad d = r at this ⊢
    grind
  have hx := mul_self_nn (compose d q).x
  have hy := mul_self_nn (compose d q).y
  have b1 := sq_le (a := (compose d q).x) (r := rad (compose d q)) (by omega) (by omega)
  have b2 := sq_le (a := (compose d q).y) (r := rad (compose d q)) (by omega) (by omega)
  have hnn : (compose d q).n = d.n + 1 := by rw [e]
  refine ⟨?_, hnn⟩
  simp only [valid, Bool.and_eq_true, decide_eq_true_eq, beq_iff_eq]
  exact ⟨⟨⟨by omega, b1⟩, b2⟩, hsq⟩
theorem dirOf_valid (l : List Int) : valid (dirOf l) = true := by
  have key : ∀ (l : List Int) (d : Dr), valid d = true → d.n + l.length ≤ 3 → valid (l.foldl compose d) = true := by
    intro l
    induction l with
    | nil => intro d h _; exact h
    | cons q l ih =>
      intro d h hl
      simp only [List.foldl_cons]
      have := compose_valid h (by simp at hl; omega) q
      exact ih _ this.1 (by rw [this.2]; simp at hl; omega)
  exact key _ _ (by simp [valid, rad, p65_zero]) (by simp; omega)
theorem cs_10 : cs 10 = (-16, 63) := by decide
theorem cs_m1 : cs (-1) = (63, -16) := by decide
theorem rotP_a : rotP (65, 130) 1 = ((31, 142), true) := by decide
theorem rotP_b : rotP (1, 0) 1 = ((0, 0), false) := by decide
theorem cs_5 : cs 5 = (39, 52) := by decide
theorem valid_100 : valid ⟨1, 0, 0⟩ = true := by simp [valid, rad, p65_zero]
theorem compose_5 : compose ⟨1, 0, 0⟩ 5 = ⟨39, 52, 1⟩ := by simp [compose, valid_100, byv, cs_5]
theorem valid_d : valid ⟨39, 52, 1⟩ = true := by simp [valid, rad, p65_one]
theorem valid_0 : valid ⟨0, 0, 0⟩ = false := by simp [valid, rad, p65_zero]
theorem offset_5 : offset ⟨39, 52, 1⟩ 5 = (13182000, 17576000) := by simp [offset, rad, p65_one]
end Go.Proofs
