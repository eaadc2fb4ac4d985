/- The walk of InvkinNarrowLimits: it returns true. -/
import Derived.Test.YtajdhkchgidjmaaM6
import Derived.Test.YtajdhkchgidjmaaA16
set_option linter.unusedVariables false
set_option linter.unusedSimpArgs false
set_option maxRecDepth 100000
namespace Go.Proofs
open Go Go.Abs
attribute [local irreducible] wpc aSeq awAny endA guardK condK CallK callT aPlan onlyL takeL aeffK takeE loopG bodyA thenA inBlockA planK roundG assignG bodyI endI YieldK unrollG
abbrev limav (a : Ar) (n m : J3) : AV := .agg [.int .i64 a.base.1, .int .i64 a.base.2, .int .i64 a.lens.a, .int .i64 a.lens.b, .int .i64 a.lens.c, .int .i64 a.wide, .int .i64 n.a, .int .i64 n.b, .int .i64 n.c, .int .i64 m.a, .int .i64 m.b, .int .i64 m.c]
theorem fits_lim (a : Ar) (n m q : J3) : Pure Try.prog 23 [limav a n m, q.av] (.bool (fits (a.lim n m) q)) := rFits_pure (a.lim n m) q
theorem solve_lim (a : Ar) (n m : J3) (p : V2) (d : Dr) (h : RightP (a.lim n m)) (hd : valid d = true) (hat : -1000000000 ≤ p.1 ∧ p.1 ≤ 1000000000 ∧ -1000000000 ≤ p.2 ∧ p.2 ≤ 1000000000) : Pure Try.prog 14 [limav a n m, p.av, d.av] (.sl 3 (jcs (all (a.lim n m) p d)) .unk) := solve_all (a.lim n m) p d h hd hat
theorem rem_facts (l g r : Int) (h1 : -17 ≤ l) (h2 : l ≤ g) (h3 : g ≤ 18) (h4 : 0 ≤ r) (h5 : r ≤ 255) : IntKind.wrap .i64 r = r ∧ IntKind.wrap .i64 (g - l) = g - l ∧ IntKind.wrap .i64 (g - l + 1) = g - l + 1 ∧ ¬ (g - l + 1 = 0) ∧ r.tmod (g - l + 1) = r % (g - l + 1) ∧ IntKind.wrap .i64 (r % (g - l + 1)) = r % (g - l + 1) ∧ IntKind.wrap .i64 (l + r % (g - l + 1)) = l + r % (g - l + 1) := by
  have m1 := Int.emod_nonneg r (b := g - l + 1) (by omega)
  have m2 := Int.emod_lt_of_pos r (b := g - l + 1) (by omega)
  exact ⟨wrap64 (by omega) (by omega), wrap64 (by omega) (by omega), wrap64 (by omega) (by omega), by omega, Int.tmod_eq_emod_of_nonneg h4, wrap64 (by omega) (by omega), wrap64 (by omega) (by omega)⟩
theorem rem_bd (l g r : Int) (h2 : l ≤ g) : l ≤ l + r % (g - l + 1) ∧ l + r % (g - l + 1) ≤ g := by
  have m1 := Int.emod_nonneg r (b := g - l + 1) (by omega)
  have m2 := Int.emod_lt_of_pos r (b := g - l + 1) (by omega)
  omega
set_option maxHeartbeats 8000000 in
theorem law7 (a : Ar) (r lo hi : J3) (hr : rawOk r) (hlo : rawOk lo) (hhi : rawOk hi) : Pure Try.prog 7 [a.av, rawav r, rawav lo, rawav hi] (.bool true) := by
  intro σ ns; refine acalls_of_wpc Try.mixed Try.dr7 Try.func7 rfl (Try.fit7 _ rfl) Try.en7 (fun hσ => ?_); simp [Try.ntmps7]
  first | refine Pure.use_le (head8_pure) ?_ | refine callT_le (head8_pure) ?_
  simp
  first | refine Pure.use_le (right7_pure a) ?_ | refine callT_le (right7_pure a) ?_
  simp
  refine condK_cases (fun hR => ?_) (fun hR => ?_)
  · simp
    exact endA_eq (by simp) (by simp)
  simp at hR
  have hP := right_spec hR
  have hpl := hP.low
  have hph := hP.high
  have hpr := hP.rg
  have htip := tip_in hR (jointOf a r)
  unfold rawOk at hlo hhi
  have k0 := rem_facts a.low.a a.high.a lo.a (by omega) (by omega) (by omega) (by omega) (by omega)
  have k1 := rem_facts a.low.b a.high.b lo.b (by omega) (by omega) (by omega) (by omega) (by omega)
  have k2 := rem_facts a.low.c a.high.c lo.c (by omega) (by omega) (by omega) (by omega) (by omega)
  have b0 := rem_bd a.low.a a.high.a lo.a (by omega)
  have b1 := rem_bd a.low.b a.high.b lo.b (by omega)
  have b2 := rem_bd a.low.c a.high.c lo.c (by omega)
  obtain ⟨n0, hn0⟩ : ∃ n, n = a.low.a + lo.a % (a.high.a - a.low.a + 1) := ⟨_, rfl⟩
  obtain ⟨n1, hn1⟩ : ∃ n, n = a.low.b + lo.b % (a.high.b - a.low.b + 1) := ⟨_, rfl⟩
  obtain ⟨n2, hn2⟩ : ∃ n, n = a.low.c + lo.c % (a.high.c - a.low.c + 1) := ⟨_, rfl⟩
  rw [← hn0] at b0 k0
  rw [← hn1] at b1 k1
  rw [← hn2] at b2 k2
  have m0 := rem_facts n0 a.high.a hi.a (by omega) (by omega) (by omega) (by omega) (by omega)
  have m1 := rem_facts n1 a.high.b hi.b (by omega) (by omega) (by omega) (by omega) (by omega)
  have m2 := rem_facts n2 a.high.c hi.c (by omega) (by omega) (by omega) (by omega) (by omega)
  have c0 := rem_bd n0 a.high.a hi.a (by omega)
  have c1 := rem_bd n1 a.high.b hi.b (by omega)
  have c2 := rem_bd n2 a.high.c hi.c (by omega)
  simp
  refine wpc_unroll 3 (fun k => ?_)
  simp [k0, ← hn0, m0]
  refine unroll_next (fun k' => ?_)
  simp [k1, ← hn1, m1]
  refine unroll_next (fun k'' => ?_)
  simp [k2, ← hn2, m2]
  refine unroll_next (fun k3 => ?_)
  simp
  generalize n0 + hi.a % (a.high.a - n0 + 1) = g0 at *
  generalize n1 + hi.b % (a.high.b - n1 + 1) = g1 at *
  generalize n2 + hi.c % (a.high.c - n2 + 1) = g2 at *
  have hPb : RightP (a.lim ⟨n0, n1, n2⟩ ⟨g0, g1, g2⟩) := ⟨hP.lens, by simp only [Ar.lim]; omega, by simp only [Ar.lim]; omega, by simp only [Ar.lim]; omega, hP.base⟩
  first | refine Pure.use_le (joint_pure a r hP hr) ?_ | refine callT_le (joint_pure a r hP hr) ?_
  simp
  first | refine Pure.use_le (tip_pure a (jointOf a r) hP) ?_ | refine callT_le (tip_pure a (jointOf a r) hP) ?_
  have hv := (dC_valid (jointOf a r)).1
  generalize pC a (jointOf a r) = p at *
  generalize dC (jointOf a r) = e at *
  simp
  first | refine Pure.use_le (solve_all a p e hP hv (by omega)) ?_ | refine callT_le (solve_all a p e hP hv (by omega)) ?_
  have hnar := all_narrow a ⟨n0, n1, n2⟩ ⟨g0, g1, g2⟩ (by simp only; omega) p e
  have hlb := all_len _ p e hPb
  have hla := all_len _ p e hP
  have hsol := solve_lim a ⟨n0, n1, n2⟩ ⟨g0, g1, g2⟩ p e hPb hv (by omega)
  have hfit := fits_lim a ⟨n0, n1, n2⟩ ⟨g0, g1, g2⟩
  generalize a.lim ⟨n0, n1, n2⟩ ⟨g0, g1, g2⟩ = b at *
  rw [hnar] at hsol
  generalize all a p e = l at *
  try simp only at hsol
  simp
  refine wpc_loopGr (fun x : Nat × Option Nm => [(16, .any), (17, .any), (18, .any), (89, .any), (90, .any), (91, .any), (92, .any), (93, .any), (94, .any), (95, .any), (96, .any), (97, .any), (98, .any), (99, .any), (100, .any), (101, .any), (102, .any), (103, .any), (104, .any), (105, .any), (106, .any), (107, .any), (108, .any),  (16, gv 3 x.2 (jcs ((l.take x.1).filter fun q => fits b q))), (17, .int .i64 x.1)]) (fun x => x.2) (fun x => jcs ((l.take x.1).filter fun q => fits b q)) (fun x => l.length - x.1) (fun x => x.1 ≤ l.length) (0, none) rfl (by simp) (by simp) ?_ ?_
  · simp [gv_none]
    (repeat' first | exact AVsle.nil | refine AVsle.cons (AVle.any _) ?_ | refine AVsle.cons (AVle.refl _) ?_ | refine AVsle.cons AVLe.le ?_)
  rintro ⟨i, c⟩ k4 hi hok hfr hne
  dsimp only at hi hok hne
  simp
  refine condK_cases (fun h => ?_) (fun h => ?_) <;> simp at h
  · have g := getD_some h
    have ht : l.take (i + 1) = l.take i ++ [l.getD i j0] := by
      rw [List.take_succ_eq_append_getElem h]; simp [List.getD, h]
    generalize l.getD i j0 = x at *
    have w1 : IntKind.wrap .i64 ((i : Int) + 1) = ((i + 1 : Nat) : Int) := wrap64 (by omega) (by omega)
    simp [jcs_get g, hne]
    first | refine Pure.use_le (hfit x) ?_ | refine callT_le (hfit x) ?_
    simp
    refine condK_cases (fun h1 => ?_) (fun h1 => ?_)
    · have hf : (l.take (i + 1)).filter (fun q => fits b q) = (l.take i).filter (fun q => fits b q) ++ [x] := by
        rw [ht]; simp [h1]
      have hlen : ((l.take i).filter fun q => fits b q).length ≤ 50000 := Nat.le_trans (List.length_filter_le _ _) (by simp; omega)
      simp [jcs_get g, hne, hok.gnil, w1, show (((l.take i).filter fun q => fits b q).length + 1) * 24 ≤ 140737488355328 by omega]
      refine loopG_normal (i + 1, some ((((ns.sub 11).sub k4).sub 3).sub 6)) ⟨by simp only; omega, gok_some (by simp [Nm.under]) (hfr _ (by simp [Nm.under]))⟩ (by simp only; omega) ?_ ?_ rfl rfl
      · simp only [hf, ← jcs_snoc]
        simp
        (repeat' first | exact AVsle.nil | refine AVsle.cons (AVle.any _) ?_ | refine AVsle.cons (AVle.refl _) ?_ | refine AVsle.cons AVLe.le ?_)
      · (dsimp only; refine StWk.weak (StWk.grow ?_ ?_); rotate_left; (intro m hm; cases hm; simp); (repeat' first | exact StWk.refl _ | refine StWk.own_up ?_ (by first | exact hfr _ (by simp [Nm.under]) | simp [hfr]) | refine StWk.own_gdel ?_ hok.fresh | refine StWk.own_gs ?_ hok.fresh))
    · have hf : (l.take (i + 1)).filter (fun q => fits b q) = (l.take i).filter (fun q => fits b q) := by
        rw [ht]; simp [h1]
      simp [w1]
      refine loopG_normal (i + 1, c) ⟨by simp only; omega, by rw [hf]; exact hok⟩ (by simp only; omega) ?_ ?_ rfl rfl
      · simp [hf]
        (repeat' first | exact AVsle.nil | refine AVsle.cons (AVle.any _) ?_ | refine AVsle.cons (AVle.refl _) ?_ | refine AVsle.cons AVLe.le ?_)
      · exact .of_eq (by simp)
  · obtain rfl : i = l.length := by omega
    simp [hne]
    first | refine Pure.use_le (hsol) ?_ | refine callT_le (hsol) ?_
    simp
    have hle := hok.le (k := 3)
    refine Pure.use ((same_self (l.filter fun q => fits b q) (Nat.le_trans (List.length_filter_le _ _) (by omega))).weaken ?_) ?_
    · simp at hle
      exact .cons (.refl _) (.cons hle .nil)
    simp
    refine endA_eq (by simp) ?_
    rw [restoreS_gs hok.own]
    simp
end Go.Proofs
