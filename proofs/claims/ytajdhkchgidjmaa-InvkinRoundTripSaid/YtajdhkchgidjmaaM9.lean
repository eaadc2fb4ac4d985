/- The walk of InvkinRoundTrip: it returns true. -/
import Derived.Test.YtajdhkchgidjmaaM8
set_option linter.unusedVariables false
set_option linter.unusedSimpArgs false
set_option maxRecDepth 100000
namespace Go.Proofs
open Go Go.Abs
attribute [local irreducible] wpc aSeq awAny endA guardK condK CallK callT aPlan onlyL takeL aeffK takeE loopG bodyA thenA inBlockA planK roundG assignG bodyI endI YieldK unrollG
theorem lt_get {l : List J3} (h : l.Pairwise J3.lt) {i : Nat} (hi : i < l.length) (h1 : 0 < i) : (l.getD (i - 1) j0).lt (l.getD i j0) := by
  have := List.pairwise_iff_getElem.1 h (i - 1) i (by omega) hi (by omega)
  simpa [List.getD, hi, show i - 1 < l.length by omega] using this
set_option maxHeartbeats 8000000 in
theorem law9 (a : Ar) (r : J3) (hr : rawOk r) : Pure Try.prog 9 [a.av, rawav r] (.bool true) := by
  intro σ ns; refine acalls_of_wpc Try.mixed Try.dr9 Try.func9 rfl (Try.fit9 _ rfl) Try.en9 (fun hσ => ?_); simp [Try.ntmps9]
  first | refine Pure.use_le (head8_pure) ?_ | refine callT_le (head8_pure) ?_
  simp
  first | refine Pure.use_le (right7_pure a) ?_ | refine callT_le (right7_pure a) ?_
  simp
  refine condK_cases (fun hR => ?_) (fun hR => ?_)
  · simp
    exact endA_eq (by simp) (by simp)
  simp at hR
  have hP := right_spec hR
  have htip := tip_in hR (jointOf a r)
  have hv := (dC_valid (jointOf a r)).1
  have hin : jointOf a r ∈ all a (pC a (jointOf a r)) (dC (jointOf a r)) := all_mem.2 ⟨jointOf_fits a r hP, by simp [reaches]⟩
  have hsp := fun q => @all_spec a (pC a (jointOf a r)) (dC (jointOf a r)) q
  have hsrt := all_sorted a (pC a (jointOf a r)) (dC (jointOf a r))
  have hmm := fun q => @all_mem a (pC a (jointOf a r)) (dC (jointOf a r)) q
  have hlen := all_len a (pC a (jointOf a r)) (dC (jointOf a r)) hP
  have hsol := solve_all a (pC a (jointOf a r)) (dC (jointOf a r)) hP hv (by omega)
  simp
  first | refine Pure.use_le (joint_pure a r hP hr) ?_ | refine callT_le (joint_pure a r hP hr) ?_
  simp
  first | refine Pure.use_le (jointPoints_pure a (jointOf a r) hP) ?_ | refine callT_le (jointPoints_pure a (jointOf a r) hP) ?_
  simp
  first | refine Pure.use_le (linkDirections_pure a (jointOf a r)) ?_ | refine callT_le (linkDirections_pure a (jointOf a r)) ?_
  simp
  first | refine Pure.use_le (hsol) ?_ | refine callT_le (hsol) ?_
  simp
  first | refine Pure.use_le (has_pure (all a (pC a (jointOf a r)) (dC (jointOf a r))) (jointOf a r) (by omega)) ?_ | refine callT_le (has_pure (all a (pC a (jointOf a r)) (dC (jointOf a r))) (jointOf a r) (by omega)) ?_
  simp [hin]
  generalize all a (pC a (jointOf a r)) (dC (jointOf a r)) = l at *
  refine wpc_loop0 (fun i : Nat => [(4, .any), (12, .any), (13, .any), (14, .any), (41, .any), (42, .any), (43, .any), (44, .any), (45, .any), (46, .any), (47, .any), (48, .any), (49, .any), (50, .any), (51, .any), (52, .any), (53, .any), (54, .any), (55, .any), (56, .any), (57, .any), (58, .any), (59, .any), (60, .any), (61, .any), (62, .any), (63, .any), (64, .any), (65, .any), (66, .any), (67, .any), (68, .any), (69, .any), (70, .any), (71, .any), (72, .any), (73, .any), (74, .any), (75, .any), (76, .any), (77, .any), (78, .any), (79, .any), (80, .any), (81, .any), (82, .any), (83, .any), (84, .any), (85, .any), (86, .any), (87, .any), (88, .any), (89, .any), (90, .any), (91, .any), (92, .any), (93, .any), (94, .any),  (12, .int .i64 i)]) (fun i => l.length - i) (fun i => i ≤ l.length) 0 (by simp) ?_ ?_
  · simp
    (repeat' first | exact AVsle.nil | refine AVsle.cons (AVle.any _) ?_ | refine AVsle.cons (AVle.refl _) ?_ | refine AVsle.cons AVLe.le ?_)
  rintro i k hi
  simp
  refine condK_cases (fun h => ?_) (fun h => ?_) <;> simp at h
  · have g := getD_some h
    have hlt := lt_get hsrt h
    have g1 := fun h0 : 0 < i => getD_some (show i - 1 < l.length by omega)
    have hm := getD_mem h
    have hs := hsp _ hm
    have hf := ((hmm _).1 hm).1
    generalize l.getD i j0 = x at *
    generalize l.getD (i - 1) j0 = y at *
    have w1 : IntKind.wrap .i64 ((i : Int) + 1) = ((i + 1 : Nat) : Int) := wrap64 (by omega) (by omega)
    simp [jcs_get g]
    first | refine Pure.use_le (inLimits_pure a x) ?_ | refine callT_le (inLimits_pure a x) ?_
    simp [hf, jcs_get g]
    first | refine Pure.use_le (jointPoints_pure a x hP) ?_ | refine callT_le (jointPoints_pure a x hP) ?_
    simp [jcs_get g]
    first | refine Pure.use_le (linkDirections_pure a x) ?_ | refine callT_le (linkDirections_pure a x) ?_
    simp [hs.2.1, hs.2.2]
    rcases Nat.eq_zero_or_pos i with h0 | h0
    · subst h0
      simp
      refine loopG_normal 1 (by omega) (by omega) ?_ (.of_eq (by simp)) rfl rfl
      simp
      (repeat' first | exact AVsle.nil | refine AVsle.cons (AVle.any _) ?_ | refine AVsle.cons (AVle.refl _) ?_ | refine AVsle.cons AVLe.le ?_)
    · have w0 : IntKind.wrap .i64 ((i : Int) - 1) = ((i - 1 : Nat) : Int) := by rw [wrap64 (by omega) (by omega)]; omega
      simp [h0, w0, jcs_get (g1 h0), jcs_get g]
      first | refine Pure.use_le (rises_pure y x) ?_ | refine callT_le (rises_pure y x) ?_
      simp [hlt h0, w1]
      refine loopG_normal (i + 1) (by omega) (by omega) ?_ (.of_eq (by simp)) rfl rfl
      simp
      (repeat' first | exact AVsle.nil | refine AVsle.cons (AVle.any _) ?_ | refine AVsle.cons (AVle.refl _) ?_ | refine AVsle.cons AVLe.le ?_)
  · simp
    exact endA_eq (by simp) (by simp)
end Go.Proofs
