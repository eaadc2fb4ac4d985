/- The walk of InvkinMatchesReference: it returns true. -/
import Derived.Test.YtajdhkchgidjmaaW16
set_option linter.unusedVariables false
set_option linter.unusedSimpArgs false
set_option maxRecDepth 100000
namespace Go.Proofs
open Go Go.Abs
attribute [local irreducible] wpc aSeq awAny endA guardK condK CallK callT aPlan onlyL takeL aeffK takeE loopG bodyA thenA inBlockA planK roundG assignG bodyI endI YieldK unrollG
theorem solve_all (a : Ar) (at' : V2) (d : Dr) (h : RightP a) (hd : valid d = true) (hat : -1000000000 ≤ at'.1 ∧ at'.1 ≤ 1000000000 ∧ -1000000000 ≤ at'.2 ∧ at'.2 ≤ 1000000000) : Pure Try.prog 14 [a.av, at'.av, d.av] (.sl 3 (jcs (all a at' d)) .unk) := by
  have := solve_pure a at' d h hd hat
  rwa [sol_eq] at this
theorem all_len (a : Ar) (at' : V2) (d : Dr) (h : RightP a) : (all a at' d).length ≤ 50000 := by
  have hlo := h.low
  have hhi := h.high
  have hNa : cnt a.low.a a.high.a ≤ 36 := by unfold cnt; omega
  have hNb : cnt a.low.b a.high.b ≤ 36 := by unfold cnt; omega
  have hNc : cnt a.low.c a.high.c ≤ 36 := by unfold cnt; omega
  have := len_ok a at' d hNb hNc 0 0 (n1 := cnt a.low.a a.high.a) (n2 := 0) (n3 := 0) (Nat.le_refl _) (Nat.zero_le _) (Nat.zero_le _) hNa
  unfold all; omega
theorem may_spec {v : V2} (h : may v = true) : -1000000000 ≤ v.1 ∧ v.1 ≤ 1000000000 ∧ -1000000000 ≤ v.2 ∧ v.2 ≤ 1000000000 := by
  simp [may] at h; omega
theorem tip_ok {a : Ar} (h : RightP a) (q : J3) : -1000000000 ≤ (pC a q).1 ∧ (pC a q).1 ≤ 1000000000 ∧ -1000000000 ≤ (pC a q).2 ∧ (pC a q).2 ≤ 1000000000 := by
  have hl := h.lens
  have hb := h.base
  have h1 := off40 (dA_valid q).1 (n := a.lens.a) (by omega)
  have h2 := off40 (dB_valid q).1 (n := a.lens.b) (by omega)
  have h3 := off40 (dC_valid q).1 (n := a.lens.c) (by omega)
  unfold pC pB pA V2.add
  simp only
  omega
theorem same_self (l : List J3) (hl : l.length ≤ 50000) : Pure Try.prog 13 [.sl 3 (jcs l) .unk, .sl 3 (jcs l) .unk] (.bool true) := by
  have := same_pure l l (by omega) (by omega)
  rwa [decide_eq_true rfl] at this
set_option maxHeartbeats 8000000 in
theorem law3 (a : Ar) (at' : V2) (d : Dr) (r : J3) (l : List J3) (q : J3) (hr : rawOk r) : Pure Try.prog 3 [a.av, at'.av, d.av, rawav r, .sl 3 (jcs l) .unk, q.av] (.bool true) := by
  intro σ ns; refine acalls_of_wpc Try.mixed Try.dr3 Try.func3 rfl (Try.fit3 _ rfl) Try.en3 (fun hσ => ?_); simp [Try.ntmps3]
  refine Pure.use_le head8_pure ?_
  simp
  refine Pure.use_le (right7_pure a) ?_
  simp
  refine guardK_cases (fun hR => ?_) (fun hR => ?_) <;> simp [hR]
  · exact endA_eq (by simp) (by simp)
  refine condK_cases (fun hL => ?_) (fun hL => ?_)
  · simp
    exact endA_eq (by simp) (by simp)
  simp at hR hL
  have hP := right_spec hR
  have hdC := dC_valid (jointOf a r)
  simp
  refine Pure.use_le (may8_pure a at' d) ?_
  simp
  refine condK_cases (fun hM => ?_) (fun hM => ?_)
  · have hM' := hM
    simp [mayArgs] at hM'
    simp
    refine callT_le (solve_all a at' d hP hM'.1.2 (may_spec hM'.1.1.2)) ?_
    simp
    refine Pure.use_le (all_pure a at' d hP) ?_
    simp
    refine Pure.use_le (same_self _ (all_len a at' d hP)) ?_
    simp
    refine callT_le (joint_pure a r hP hr) ?_
    simp
    refine callT_le (tip_pure a (jointOf a r) hP) ?_
    simp
    refine callT_le (solve_all a (pC a (jointOf a r)) (dC (jointOf a r)) hP hdC.1 (tip_ok hP _)) ?_
    simp
    refine Pure.use_le (all_pure a (pC a (jointOf a r)) (dC (jointOf a r)) hP) ?_
    simp
    refine Pure.use_le (same_self _ (all_len a (pC a (jointOf a r)) (dC (jointOf a r)) hP)) ?_
    simp
    refine Pure.use_le (small_pure q) ?_
    simp
    refine wpc_loop0 (fun i : Nat => [(20, .any), (21, .any), (22, .any), (73, .any), (74, .any), (75, .any), (76, .any), (77, .any), (78, .any), (79, .any), (80, .any), (81, .any), (82, .any), (83, .any), (84, .any), (85, .any), (86, .any), (87, .any),  (20, .bool (small q && (l.take i).all small)), (21, .int .i64 i)]) (fun i => l.length - i) (fun i => i ≤ l.length) 0 (by simp) ?_ ?_
    · simp
      (repeat' first | exact AVsle.nil | refine AVsle.cons (AVle.any _) ?_ | refine AVsle.cons (AVle.refl _) ?_ | refine AVsle.cons AVLe.le ?_)
    rintro i k hi
    simp
    refine condK_cases (fun h => ?_) (fun h => ?_) <;> simp at h
    · have gi := getD_some h
      have ht : l.take (i + 1) = l.take i ++ [l.getD i j0] := by
        rw [List.take_succ_eq_append_getElem h]; simp [List.getD, h]
      generalize l.getD i j0 = x at gi ht
      have w : IntKind.wrap .i64 (i + 1) = i + 1 := wrap64 (by omega) (by omega)
      simp [jcs_get gi]
      refine Pure.use_le (small_pure x) ?_
      simp
      refine guardK_cases (fun hg => ?_) (fun hg => ?_) <;> simp [hg, w]
      · refine loopG_normal (i + 1) (by omega) (by omega) ?_ (StWk.weak (.refl _)) rfl rfl
        have e : (small q && (l.take (i + 1)).all small) = small x := by
          rw [ht, List.all_append, ← Bool.and_assoc, hg]; simp
        rw [← e]
        simp
        (repeat' first | exact AVsle.nil | refine AVsle.cons (AVle.any _) ?_ | refine AVsle.cons (AVle.refl _) ?_ | refine AVsle.cons AVLe.le ?_)
      · refine loopG_normal (i + 1) (by omega) (by omega) ?_ (StWk.weak (.refl _)) rfl rfl
        have e : (small q && (l.take (i + 1)).all small) = false := by
          rw [ht, List.all_append, ← Bool.and_assoc, hg]; rfl
        simp [e]
        (repeat' first | exact AVsle.nil | refine AVsle.cons (AVle.any _) ?_ | refine AVsle.cons (AVle.refl _) ?_ | refine AVsle.cons AVLe.le ?_)
    · obtain rfl : i = l.length := by omega
      simp
      refine condK_cases (fun hs => ?_) (fun hs => ?_)
      · simp
        exact endA_eq (by simp) (by simp)
      · have hsq : small q = true ∧ l.all small = true := by
          cases h1 : small q <;> cases h2 : l.all small <;> simp_all
        have hall : ∀ x ∈ l, small x = true := List.all_eq_true.1 hsq.2
        simp
        refine Pure.use_le (nearest_pure l q (by omega) hall hsq.1) ?_
        simp
        refine Pure.use_le (near_pure l q (by omega) hall hsq.1) ?_
        simp [aeq3]
        exact endA_eq (by simp) (by simp)
  · simp
    refine callT_le (joint_pure a r hP hr) ?_
    simp
    refine callT_le (tip_pure a (jointOf a r) hP) ?_
    simp
    refine callT_le (solve_all a (pC a (jointOf a r)) (dC (jointOf a r)) hP hdC.1 (tip_ok hP _)) ?_
    simp
    refine Pure.use_le (all_pure a (pC a (jointOf a r)) (dC (jointOf a r)) hP) ?_
    simp
    refine Pure.use_le (same_self _ (all_len a (pC a (jointOf a r)) (dC (jointOf a r)) hP)) ?_
    simp
    refine Pure.use_le (small_pure q) ?_
    simp
    refine wpc_loop0 (fun i : Nat => [(20, .any), (21, .any), (22, .any), (73, .any), (74, .any), (75, .any), (76, .any), (77, .any), (78, .any), (79, .any), (80, .any), (81, .any), (82, .any), (83, .any), (84, .any), (85, .any), (86, .any), (87, .any),  (20, .bool (small q && (l.take i).all small)), (21, .int .i64 i)]) (fun i => l.length - i) (fun i => i ≤ l.length) 0 (by simp) ?_ ?_
    · simp
      (repeat' first | exact AVsle.nil | refine AVsle.cons (AVle.any _) ?_ | refine AVsle.cons (AVle.refl _) ?_ | refine AVsle.cons AVLe.le ?_)
    rintro i k hi
    simp
    refine condK_cases (fun h => ?_) (fun h => ?_) <;> simp at h
    · have gi := getD_some h
      have ht : l.take (i + 1) = l.take i ++ [l.getD i j0] := by
        rw [List.take_succ_eq_append_getElem h]; simp [List.getD, h]
      generalize l.getD i j0 = x at gi ht
      have w : IntKind.wrap .i64 (i + 1) = i + 1 := wrap64 (by omega) (by omega)
      simp [jcs_get gi]
      refine Pure.use_le (small_pure x) ?_
      simp
      refine guardK_cases (fun hg => ?_) (fun hg => ?_) <;> simp [hg, w]
      · refine loopG_normal (i + 1) (by omega) (by omega) ?_ (StWk.weak (.refl _)) rfl rfl
        have e : (small q && (l.take (i + 1)).all small) = small x := by
          rw [ht, List.all_append, ← Bool.and_assoc, hg]; simp
        rw [← e]
        simp
        (repeat' first | exact AVsle.nil | refine AVsle.cons (AVle.any _) ?_ | refine AVsle.cons (AVle.refl _) ?_ | refine AVsle.cons AVLe.le ?_)
      · refine loopG_normal (i + 1) (by omega) (by omega) ?_ (StWk.weak (.refl _)) rfl rfl
        have e : (small q && (l.take (i + 1)).all small) = false := by
          rw [ht, List.all_append, ← Bool.and_assoc, hg]; rfl
        simp [e]
        (repeat' first | exact AVsle.nil | refine AVsle.cons (AVle.any _) ?_ | refine AVsle.cons (AVle.refl _) ?_ | refine AVsle.cons AVLe.le ?_)
    · obtain rfl : i = l.length := by omega
      simp
      refine condK_cases (fun hs => ?_) (fun hs => ?_)
      · simp
        exact endA_eq (by simp) (by simp)
      · have hsq : small q = true ∧ l.all small = true := by
          cases h1 : small q <;> cases h2 : l.all small <;> simp_all
        have hall : ∀ x ∈ l, small x = true := List.all_eq_true.1 hsq.2
        simp
        refine Pure.use_le (nearest_pure l q (by omega) hall hsq.1) ?_
        simp
        refine Pure.use_le (near_pure l q (by omega) hall hsq.1) ?_
        simp [aeq3]
        exact endA_eq (by simp) (by simp)
end Go.Proofs
