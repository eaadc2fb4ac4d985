/- Expansion: walks of the reference's execution of steps. -/
import Derived.Test.YtnanajdckbfamaaGreatDoorX3
set_option linter.unusedVariables false
set_option linter.unusedSimpArgs false
set_option maxRecDepth 100000
namespace Go.Proofs
open Go Go.Abs
attribute [local irreducible] wpc aSeq awAny endA guardK condK CallK callT aPlan onlyL takeL aeffK takeE loopG bodyA thenA inBlockA planK roundG assignG bodyI endI YieldK unrollG endP
theorem There13_pure (w : Ws) (c : Ce) (i : Int) (hi : i = 0 ∨ i = 1) (at' : Nat) (ha : at' < c.places.length) (h0 : RightP c.a0) (h1 : RightP c.a1) : Pure Tryz.prog 60 [c.av, w.av, .int .i64 i, .int .i64 at'] (.bool (thereB w c i at')) := by
  have hg := plcs_get ha
  refine pure_val fun σ ns _ => ?_; refine acalls_of_wpc Tryz.mixed Tryz.dr60 Tryz.func60 rfl (Tryz.fit60 _ rfl) Tryz.en60 (fun hσ => ?_); simp [Tryz.ntmps60]
  rcases hi with rfl | rfl <;> simp [hg]
  · first | refine Pure.use_le (points_pure c.a0 w.q0 h0) ?_ | refine callT_le (points_pure c.a0 w.q0 h0) ?_
    simp [hg]
    first | refine Pure.use_le (dirs_pure c.a0 w.q0) ?_ | refine callT_le (dirs_pure c.a0 w.q0) ?_
    simp [hg, v2_beq]
    have e1 : thereB w c 0 at' = (decide (pC c.a0 w.q0 = (plat c.places at').pos) && decide (dC w.q0 = (plat c.places at').dir)) := rfl
    refine guardK_cases (fun h => ?_) (fun h => ?_) <;> simp [h, hg, dr_beq]
    · exact endA_eq (by rw [e1]; simp_all) (by simp)
    · exact endA_eq (by rw [e1]; simp_all) (by simp)
  · first | refine Pure.use_le (points_pure c.a1 w.q1 h1) ?_ | refine callT_le (points_pure c.a1 w.q1 h1) ?_
    simp [hg]
    first | refine Pure.use_le (dirs_pure c.a1 w.q1) ?_ | refine callT_le (dirs_pure c.a1 w.q1) ?_
    simp [hg, v2_beq]
    have e1 : thereB w c 1 at' = (decide (pC c.a1 w.q1 = (plat c.places at').pos) && decide (dC w.q1 = (plat c.places at').dir)) := rfl
    refine guardK_cases (fun h => ?_) (fun h => ?_) <;> simp [h, hg, dr_beq]
    · exact endA_eq (by rw [e1]; simp_all) (by simp)
    · exact endA_eq (by rw [e1]; simp_all) (by simp)
/-- What the reference answers. -/
def refR (w : Ws) (x : Except Int Ws) : Ws × Int := match x with
  | .ok w' => (w', 0)
  | .error k => (w, k)
abbrev refAV (x : Ws × Int) : AV := .tup [x.1.av, .int .i64 x.2]
theorem refR_ok {w w' : Ws} {x : Except Int Ws} (h : x = .ok w') : refR w x = (w', 0) := by rw [h]; rfl
theorem refR_err {w : Ws} {x : Except Int Ws} {k : Int} (h : x = .error k) : refR w x = (w, k) := by rw [h]; rfl
theorem end_ref {r : Ws × Int} {r' : Ws × Int} {σ τ : Store} {ns : Nm} (h : r' = r) (hw : restoreS ns [] σ τ = σ) : endA (some (refAV r)) τ [] σ ns (fun e σ' => e = .ret (refAV r') ∧ σ' = σ) := by
  subst h; exact endA_eq rfl hw
theorem grip13_pure (w : Ws) (c : Ce) (s : Sp) (hi : s.arm = 0 ∨ s.arm = 1) (hw : WOk w c) (hh : -1 ≤ w.l0 ∧ -1 ≤ w.l1) : Pure Tryz.prog 35 [c.av, w.av, s.av] (refAV (refR w (if s.kind = 3 then doTake s w c else doLeave s w c))) := by
  have hlen := hw.len
  have hpl := hw.parts
  refine pure_val fun σ ns _ => ?_; refine acalls_of_wpc Tryz.mixed Tryz.dr35 Tryz.func35 rfl (Tryz.fit35 _ rfl) Tryz.en35 (fun hσ => ?_); simp [Tryz.ntmps35]
  have bad : knownB s c = false → refR w (if s.kind = 3 then doTake s w c else doLeave s w c) = (w, 1) := fun h => by
    split
    · exact refR_err (if_pos h)
    · exact refR_err (if_pos h)
  refine guardK_cases (fun h1 => ?_) (fun h1 => ?_) <;> simp [h1] <;> (try simp at h1)
  · exact end_ref (r := (w, 1)) (bad (by simp [knownB]; omega)) (by simp)
  refine guardK_cases (fun h2 => ?_) (fun h2 => ?_) <;> simp [h2] <;> (try simp at h2)
  · exact end_ref (r := (w, 1)) (bad (by simp [knownB]; omega)) (by simp)
  refine guardK_cases (fun h3 => ?_) (fun h3 => ?_) <;> simp [h3] <;> (try simp at h3)
  · exact end_ref (r := (w, 1)) (bad (by simp [knownB]; omega)) (by simp)
  refine condK_cases (fun h4 => ?_) (fun h4 => ?_) <;> simp [h4] <;> (try simp at h4)
  · exact end_ref (r := (w, 1)) (bad (by simp [knownB]; omega)) (by simp)
  have nk : ¬ knownB s c = false := by simp [knownB]; omega
  obtain ⟨p, hp⟩ := Int.eq_ofNat_of_zero_le h1
  obtain ⟨q, hq⟩ := Int.eq_ofNat_of_zero_le h3
  have hpw : p < w.wher.length := by omega
  have hg := ics_get hpw
  have tp : s.part.toNat = p := by omega
  have tq : s.place.toNat = q := by omega
  have hqc : q < c.places.length := by omega
  refine condK_cases (fun hk => ?_) (fun hk => ?_) <;> simp [hk] <;> (try simp at hk)
  · rw [if_pos hk]
    rcases hi with hi | hi <;> simp [hi]
    · refine condK_cases (fun g1 => ?_) (fun g1 => ?_) <;> simp [g1] <;> (try simp at g1)
      · exact end_ref (r := (w, 130)) (refR_err (by unfold doTake; rw [if_neg nk, hi]; exact if_pos (by simp; omega))) (by simp)
      have g1' : ¬ ¬ w.held 0 < 0 := by simp; omega
      simp [hp, hg]
      refine condK_cases (fun g2 => ?_) (fun g2 => ?_) <;> simp [g2] <;> (try simp at g2)
      · exact end_ref (r := (w, 132)) (refR_err (by unfold doTake; rw [if_neg nk, hi, if_neg g1', tp]; exact if_pos g2)) (by simp)
      have g2' : ¬ ¬ iat w.wher p = s.place := by omega
      simp [hi, hq]
      first | refine Pure.use_le (There13_pure w c 0 (.inl rfl) q hqc hw.r0 hw.r1) ?_ | refine callT_le (There13_pure w c 0 (.inl rfl) q hqc hw.r0 hw.r1) ?_
      simp
      refine condK_cases (fun g3 => ?_) (fun g3 => ?_) <;> simp [g3] <;> (try simp at g3)
      · exact end_ref (r := (w, 134)) (refR_err (by unfold doTake; rw [if_neg nk, hi, if_neg g1', tp, if_neg g2', tq]; exact if_pos g3)) (by simp)
      simp [hp]
      first | refine Pure.use_le (with_pure w p (-1) hpw (by omega)) ?_ | refine callT_le (with_pure w p (-1) hpw (by omega)) ?_
      simp [hi, hp]
      exact end_ref (r := (({ w with l0 := (p : Int) } : Ws).lay p (-1), 0)) (refR_ok (by unfold doTake; rw [if_neg nk, hi, if_neg g1', tp, if_neg g2', tq, if_neg (by rw [g3]; simp), hp]; rfl)) (by simp)
    · refine condK_cases (fun g1 => ?_) (fun g1 => ?_) <;> simp [g1] <;> (try simp at g1)
      · exact end_ref (r := (w, 130)) (refR_err (by unfold doTake; rw [if_neg nk, hi]; exact if_pos (by simp; omega))) (by simp)
      have g1' : ¬ ¬ w.held 1 < 0 := by simp; omega
      simp [hp, hg]
      refine condK_cases (fun g2 => ?_) (fun g2 => ?_) <;> simp [g2] <;> (try simp at g2)
      · exact end_ref (r := (w, 132)) (refR_err (by unfold doTake; rw [if_neg nk, hi, if_neg g1', tp]; exact if_pos g2)) (by simp)
      have g2' : ¬ ¬ iat w.wher p = s.place := by omega
      simp [hi, hq]
      first | refine Pure.use_le (There13_pure w c 1 (.inr rfl) q hqc hw.r0 hw.r1) ?_ | refine callT_le (There13_pure w c 1 (.inr rfl) q hqc hw.r0 hw.r1) ?_
      simp
      refine condK_cases (fun g3 => ?_) (fun g3 => ?_) <;> simp [g3] <;> (try simp at g3)
      · exact end_ref (r := (w, 134)) (refR_err (by unfold doTake; rw [if_neg nk, hi, if_neg g1', tp, if_neg g2', tq]; exact if_pos g3)) (by simp)
      simp [hp]
      first | refine Pure.use_le (with_pure w p (-1) hpw (by omega)) ?_ | refine callT_le (with_pure w p (-1) hpw (by omega)) ?_
      simp [hi, hp]
      exact end_ref (r := (({ w with l1 := (p : Int) } : Ws).lay p (-1), 0)) (refR_ok (by unfold doTake; rw [if_neg nk, hi, if_neg g1', tp, if_neg g2', tq, if_neg (by rw [g3]; simp), hp]; rfl)) (by simp)
  · rw [if_neg hk]
    rcases hi with hi | hi <;> simp [hi]
    · refine condK_cases (fun g1 => ?_) (fun g1 => ?_) <;> simp [g1] <;> (try simp at g1)
      · exact end_ref (r := (w, 131)) (refR_err (by unfold doLeave; rw [if_neg nk, hi]; exact if_pos (by simp; omega))) (by simp)
      have g1' : ¬ ¬ w.held 0 = s.part := by simp; omega
      simp [hq]
      first | refine Pure.use_le (Full_pure w (q : Int) (by omega)) ?_ | refine callT_le (Full_pure w (q : Int) (by omega)) ?_
      simp
      refine condK_cases (fun g2 => ?_) (fun g2 => ?_) <;> simp [g2] <;> (try simp at g2)
      · exact end_ref (r := (w, 133)) (refR_err (by unfold doLeave; rw [if_neg nk, hi, if_neg g1', hq]; exact if_pos g2)) (by simp)
      have g2' : ¬ s.place ∈ w.wher := by rw [hq]; exact g2
      simp [hi, hq]
      first | refine Pure.use_le (There13_pure w c 0 (.inl rfl) q hqc hw.r0 hw.r1) ?_ | refine callT_le (There13_pure w c 0 (.inl rfl) q hqc hw.r0 hw.r1) ?_
      simp
      refine condK_cases (fun g3 => ?_) (fun g3 => ?_) <;> simp [g3] <;> (try simp at g3)
      · exact end_ref (r := (w, 134)) (refR_err (by unfold doLeave; rw [if_neg nk, hi, if_neg g1', if_neg g2', tq]; exact if_pos g3)) (by simp)
      simp [hp, hq]
      first | refine Pure.use_le (with_pure w p (q : Int) hpw (by omega)) ?_ | refine callT_le (with_pure w p (q : Int) hpw (by omega)) ?_
      simp [hi]
      exact end_ref (r := (({ w with l0 := -1 } : Ws).lay p (q : Int), 0)) (refR_ok (by unfold doLeave; rw [if_neg nk, hi, if_neg g1', if_neg g2', tq, if_neg (by rw [g3]; simp), tp, hq]; rfl)) (by simp)
    · refine condK_cases (fun g1 => ?_) (fun g1 => ?_) <;> simp [g1] <;> (try simp at g1)
      · exact end_ref (r := (w, 131)) (refR_err (by unfold doLeave; rw [if_neg nk, hi]; exact if_pos (by simp; omega))) (by simp)
      have g1' : ¬ ¬ w.held 1 = s.part := by simp; omega
      simp [hq]
      first | refine Pure.use_le (Full_pure w (q : Int) (by omega)) ?_ | refine callT_le (Full_pure w (q : Int) (by omega)) ?_
      simp
      refine condK_cases (fun g2 => ?_) (fun g2 => ?_) <;> simp [g2] <;> (try simp at g2)
      · exact end_ref (r := (w, 133)) (refR_err (by unfold doLeave; rw [if_neg nk, hi, if_neg g1', hq]; exact if_pos g2)) (by simp)
      have g2' : ¬ s.place ∈ w.wher := by rw [hq]; exact g2
      simp [hi, hq]
      first | refine Pure.use_le (There13_pure w c 1 (.inr rfl) q hqc hw.r0 hw.r1) ?_ | refine callT_le (There13_pure w c 1 (.inr rfl) q hqc hw.r0 hw.r1) ?_
      simp
      refine condK_cases (fun g3 => ?_) (fun g3 => ?_) <;> simp [g3] <;> (try simp at g3)
      · exact end_ref (r := (w, 134)) (refR_err (by unfold doLeave; rw [if_neg nk, hi, if_neg g1', if_neg g2', tq]; exact if_pos g3)) (by simp)
      simp [hp, hq]
      first | refine Pure.use_le (with_pure w p (q : Int) hpw (by omega)) ?_ | refine callT_le (with_pure w p (q : Int) hpw (by omega)) ?_
      simp [hi]
      exact end_ref (r := (({ w with l1 := -1 } : Ws).lay p (q : Int), 0)) (refR_ok (by unfold doLeave; rw [if_neg nk, hi, if_neg g1', if_neg g2', tq, if_neg (by rw [g3]; simp), tp, hq]; rfl)) (by simp)
theorem Do13_pure (w : Ws) (c : Ce) (s : Sp) (hw : WOk w c) (hh : -1 ≤ w.l0 ∧ -1 ≤ w.l1) : Pure Tryz.prog 21 [c.av, w.av, s.av] (refAV (refR w (doE s w c))) := by
  refine pure_val fun σ ns _ => ?_; refine acalls_of_wpc Tryz.mixed Tryz.dr21 Tryz.func21 rfl (Tryz.fit21 _ rfl) Tryz.en21 (fun hσ => ?_); simp [Tryz.ntmps21]
  refine guardK_cases (fun h1 => ?_) (fun h1 => ?_) <;> simp [h1] <;> (try simp at h1)
  · exact end_ref (r := (w, 1)) (refR_err (if_pos (by omega))) (by simp)
  refine guardK_cases (fun h2 => ?_) (fun h2 => ?_) <;> simp [h2] <;> (try simp at h2)
  · exact end_ref (r := (w, 1)) (refR_err (if_pos (by omega))) (by simp)
  refine guardK_cases (fun h3 => ?_) (fun h3 => ?_) <;> simp [h3] <;> (try simp at h3)
  · exact end_ref (r := (w, 1)) (refR_err (if_pos (by omega))) (by simp)
  refine condK_cases (fun h4 => ?_) (fun h4 => ?_) <;> simp [h4] <;> (try simp at h4)
  · exact end_ref (r := (w, 1)) (refR_err (if_pos (by omega))) (by simp)
  have hi : s.arm = 0 ∨ s.arm = 1 := by omega
  have out : doE s w c = if s.kind = 1 then doGo s w c else if s.kind = 2 then doBoth s w c else if s.kind = 3 then doTake s w c else if s.kind = 4 then doLeave s w c else doWait s w c := if_neg (by omega)
  rw [out]
  refine condK_cases (fun k1 => ?_) (fun k1 => ?_) <;> simp [k1] <;> (try simp at k1)
  · rw [if_pos k1]
    rcases hi with hi | hi <;> simp [hi]
    · first | refine Pure.use_le (rFits_pure c.a0 s.to0) ?_ | refine callT_le (rFits_pure c.a0 s.to0) ?_
      simp
      refine condK_cases (fun g => ?_) (fun g => ?_) <;> simp [g] <;> (try simp at g)
      · exact end_ref (r := (w, 121)) (refR_err (by unfold doGo; rw [hi]; exact if_neg (by simp [g]))) (by simp)
      · simp [hi]
        exact end_ref (r := ({ w with q0 := s.to0 }, 0)) (refR_ok (by unfold doGo; rw [hi]; exact if_pos g)) (by simp)
    · first | refine Pure.use_le (rFits_pure c.a1 s.to1) ?_ | refine callT_le (rFits_pure c.a1 s.to1) ?_
      simp
      refine condK_cases (fun g => ?_) (fun g => ?_) <;> simp [g] <;> (try simp at g)
      · exact end_ref (r := (w, 121)) (refR_err (by unfold doGo; rw [hi]; exact if_neg (by simp [g]))) (by simp)
      · simp [hi]
        exact end_ref (r := ({ w with q1 := s.to1 }, 0)) (refR_ok (by unfold doGo; rw [hi]; exact if_pos g)) (by simp)
  rw [if_neg k1]
  refine condK_cases (fun k2 => ?_) (fun k2 => ?_) <;> simp [k2] <;> (try simp at k2)
  · rw [if_pos k2]
    first | refine Pure.use_le (rFits_pure c.a0 s.to0) ?_ | refine callT_le (rFits_pure c.a0 s.to0) ?_
    simp
    refine guardK_cases (fun g => ?_) (fun g => ?_) <;> simp [g] <;> (try simp at g)
    · exact end_ref (r := (w, 121)) (refR_err (if_neg (by simp [g]))) (by simp)
    first | refine Pure.use_le (rFits_pure c.a1 s.to1) ?_ | refine callT_le (rFits_pure c.a1 s.to1) ?_
    simp
    refine condK_cases (fun g2 => ?_) (fun g2 => ?_) <;> simp [g2] <;> (try simp at g2)
    · exact end_ref (r := (w, 121)) (refR_err (if_neg (by simp [g2]))) (by simp)
    · exact end_ref (r := ({ w with q0 := s.to0, q1 := s.to1 }, 0)) (refR_ok (if_pos ⟨g, g2⟩)) (by simp)
  rw [if_neg k2]
  refine condK_cases (fun k5 => ?_) (fun k5 => ?_) <;> simp [k5] <;> (try simp at k5)
  · rw [if_neg (by omega), if_neg (by omega)]
    refine guardK_cases (fun g => ?_) (fun g => ?_) <;> simp [g] <;> (try simp at g)
    · exact end_ref (r := (w, 1)) (refR_err (ckE_err (by simp; omega))) (by simp)
    refine condK_cases (fun g2 => ?_) (fun g2 => ?_) <;> simp [g2] <;> (try simp at g2)
    · exact end_ref (r := (w, 1)) (refR_err (ckE_err (by simp; omega))) (by simp)
    · exact end_ref (r := (w, 0)) (refR_ok (ckE_ok (by simp; omega))) (by simp)
  first | refine Pure.use_le (grip13_pure w c s hi hw hh) ?_ | refine callT_le (grip13_pure w c s hi hw hh) ?_
  simp
  have e : (if s.kind = 3 then doTake s w c else if s.kind = 4 then doLeave s w c else doWait s w c) = if s.kind = 3 then doTake s w c else doLeave s w c := by
    by_cases h : s.kind = 3
    · rw [if_pos h, if_pos h]
    · rw [if_neg h, if_neg h, if_pos (by omega)]
  rw [e]
  exact end_ref rfl (by simp)
end Go.Proofs
