/- The walk of InvkinTranslated: it returns true. -/
import Derived.Test.YtajdhkchgidjmaaM3
import Derived.Test.YtajdhkchgidjmaaP4
set_option linter.unusedVariables false
set_option linter.unusedSimpArgs false
set_option maxRecDepth 100000
namespace Go.Proofs
open Go Go.Abs
attribute [local irreducible] wpc aSeq awAny endA guardK condK CallK callT aPlan onlyL takeL aeffK takeE loopG bodyA thenA inBlockA planK roundG assignG bodyI endI YieldK unrollG
abbrev movav (a : Ar) (x y : Int) : AV := .agg [.int .i64 x, .int .i64 y, .int .i64 a.lens.a, .int .i64 a.lens.b, .int .i64 a.lens.c, .int .i64 a.wide, .int .i64 a.low.a, .int .i64 a.low.b, .int .i64 a.low.c, .int .i64 a.high.a, .int .i64 a.high.b, .int .i64 a.high.c]
def mvOf (m : V2) : V2 := (16000 * m.1, 16000 * m.2)
theorem right_mv (a : Ar) (m : V2) : Pure Try.prog 11 [movav a (a.base.1 + 16000 * m.1) (a.base.2 + 16000 * m.2)] (.bool (right (a.at' (a.base.add (mvOf m))))) := right7_pure (a.at' (a.base.add (mvOf m)))
theorem solve_mv (a : Ar) (m p : V2) (d : Dr) (h : RightP (a.at' (a.base.add (mvOf m)))) (hd : valid d = true) (hat : -900000000 ≤ (p.add (mvOf m)).1 ∧ (p.add (mvOf m)).1 ≤ 900000000 ∧ -900000000 ≤ (p.add (mvOf m)).2 ∧ (p.add (mvOf m)).2 ≤ 900000000) :
    Pure Try.prog 14 [movav a (a.base.1 + 16000 * m.1) (a.base.2 + 16000 * m.2), .agg [.int .i64 (p.1 + 16000 * m.1), .int .i64 (p.2 + 16000 * m.2)], d.av] (.sl 3 (jcs (all a p d)) .unk) := by
  have := solve_all (a.at' (a.base.add (mvOf m))) (p.add (mvOf m)) d h hd (by omega)
  rw [all_moved] at this
  exact this
theorem tip_in {a : Ar} (h : right a = true) (q : J3) : -900000000 ≤ (pC a q).1 ∧ (pC a q).1 ≤ 900000000 ∧ -900000000 ≤ (pC a q).2 ∧ (pC a q).2 ≤ 900000000 := by
  have hP := right_spec h
  have hl := hP.lens
  have h1 := off40 (dA_valid q).1 (n := a.lens.a) (by omega)
  have h2 := off40 (dB_valid q).1 (n := a.lens.b) (by omega)
  have h3 := off40 (dC_valid q).1 (n := a.lens.c) (by omega)
  have key : ∀ {d : Dr}, valid d = true → ∀ {n : Int}, 1 ≤ n → n ≤ 40 → (-(n * 4394000) ≤ (offset d n).1 ∧ (offset d n).1 ≤ n * 4394000) ∧ -(n * 4394000) ≤ (offset d n).2 ∧ (offset d n).2 ≤ n * 4394000 := by
    intro d hv n n1 n2
    have hs := valid_spec hv
    have hr := rad_bound d
    have hu := unit_bound d hs.1
    have g : ∀ x : Int, -rad d ≤ x → x ≤ rad d → -(n * 4394000) ≤ n * (4394000 / rad d) * x ∧ n * (4394000 / rad d) * x ≤ n * 4394000 := by
      intro x h1 h2
      generalize 4394000 / rad d = m at hu
      have a1 := mul_bound (a := m) (b := x) (A := m) (B := rad d) (by omega) (by omega) (by omega) (by omega)
      rw [hu.2.2.2] at a1
      have a2 := mul_bound (a := n) (b := m * x) (A := n) (B := 4394000) (by omega) (by omega) (by omega) (by omega)
      rw [Int.mul_assoc]
      omega
    exact ⟨g _ hs.2.1.1 hs.2.1.2, g _ hs.2.2.1.1 hs.2.2.1.2⟩
  have k1 := key (dA_valid q).1 (n := a.lens.a) (by omega) (by omega)
  have k2 := key (dB_valid q).1 (n := a.lens.b) (by omega) (by omega)
  have k3 := key (dC_valid q).1 (n := a.lens.c) (by omega) (by omega)
  simp [right] at h
  unfold pC pB pA V2.add
  simp only
  omega
set_option maxHeartbeats 8000000 in
theorem law5 (a : Ar) (r : J3) (m : V2) (hr : rawOk r) (hm : (-32768 ≤ m.1 ∧ m.1 ≤ 32767) ∧ -32768 ≤ m.2 ∧ m.2 ≤ 32767) : Pure Try.prog 5 [a.av, rawav r, .agg [.int .i16 m.1, .int .i16 m.2]] (.bool true) := by
  intro σ ns; refine acalls_of_wpc Try.mixed Try.dr5 Try.func5 rfl (Try.fit5 _ rfl) Try.en5 (fun hσ => ?_); simp [Try.ntmps5]
  first | refine Pure.use_le (head8_pure) ?_ | refine callT_le (head8_pure) ?_
  simp
  first | refine Pure.use_le (right7_pure a) ?_ | refine callT_le (right7_pure a) ?_
  simp
  refine condK_cases (fun hR => ?_) (fun hR => ?_)
  · simp
    exact endA_eq (by simp) (by simp)
  simp at hR
  have hP := right_spec hR
  have hb := hP.base
  have htip := tip_in hR (jointOf a r)
  simp (disch := omega) [wrap64]
  first | refine Pure.use_le (right_mv a m) ?_ | refine callT_le (right_mv a m) ?_
  simp
  refine condK_cases (fun hR2 => ?_) (fun hR2 => ?_)
  · simp
    exact endA_eq (by simp) (by simp)
  simp at hR2
  have hP2 := right_spec hR2
  have htip2 := tip_in hR2 (jointOf a r)
  rw [pC_moved] at htip2
  simp
  first | refine Pure.use_le (joint_pure a r hP hr) ?_ | refine callT_le (joint_pure a r hP hr) ?_
  simp
  first | refine Pure.use_le (tip_pure a (jointOf a r) hP) ?_ | refine callT_le (tip_pure a (jointOf a r) hP) ?_
  have hv := (dC_valid (jointOf a r)).1
  generalize pC a (jointOf a r) = p at *
  generalize dC (jointOf a r) = e at *
  simp
  first | refine Pure.use_le (solve_all a p e hP hv (by omega)) ?_ | refine callT_le (solve_all a p e hP hv (by omega)) ?_
  simp (disch := omega) [wrap64]
  first | refine Pure.use_le (solve_mv a m p e hP2 hv htip2) ?_ | refine callT_le (solve_mv a m p e hP2 hv htip2) ?_
  simp
  first | refine Pure.use_le (same_self _ (by have := all_len a p e hP; omega)) ?_ | refine callT_le (same_self _ (by have := all_len a p e hP; omega)) ?_
  simp
  exact endA_eq (by simp) (by simp)
end Go.Proofs
