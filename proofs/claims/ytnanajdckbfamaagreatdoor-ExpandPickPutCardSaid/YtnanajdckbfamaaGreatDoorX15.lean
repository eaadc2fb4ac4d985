/- Expansion: walks of the reference's statements. -/
import Derived.Test.YtnanajdckbfamaaGreatDoorY1
set_option linter.unusedVariables false
set_option linter.unusedSimpArgs false
set_option maxRecDepth 100000
namespace Go.Proofs
open Go Go.Abs
attribute [local irreducible] wpc aSeq awAny endA guardK condK CallK callT aPlan onlyL takeL aeffK takeE loopG bodyA thenA inBlockA planK roundG assignG bodyI endI YieldK unrollG endP
abbrev stAV (p : List Sp × Int) : AV := .tup [.sl 11 (spcs p.1) .unk, .int .i64 p.2]
theorem stAV_nil {p : List Sp × Int} {k : Int} (h : p = ([], k)) : AVle (.tup [.sl 0 [] .nil, .int .i64 k]) (stAV p) := by
  subst h
  have : AVsle [.sl 0 [] .nil, .int .i64 k] [.sl 11 [] .unk, .int .i64 k] := by (repeat' first | exact AVsle.nil | refine AVsle.cons (AVle.any _) ?_ | refine AVsle.cons (AVle.refl _) ?_ | refine AVsle.cons AVLe.le ?_)
  exact AVle.tup this
theorem end_st {p : List Sp × Int} {v : AV} {τ σ : Store} {ns : Nm} (h : AVle v (stAV p)) (hw : restoreS ns [] σ τ = σ) : endA (some v) τ [] σ ns (fun e σ' => e = .ret (stAV p) ∧ σ' = σ) :=
  endA_weak h (StWeak.same hw)
theorem end_sl {p : List Sp × Int} {l : List Sp} {es : List (List AV)} {cp : Cap} {τ σ : Store} {ns : Nm} (h : p = (l, 0)) (he : es = spcs l) (hw : restoreS ns [] σ τ = σ) (hc : AVle (.sl 11 es cp) (.sl 11 es .unk)) : endA (some (.tup [.sl 11 es cp, .int .i64 0])) τ [] σ ns (fun e σ' => e = .ret (stAV p) ∧ σ' = σ) := by
  subst h he
  exact end_st (AVle.tup (AVsle.cons hc (AVsle.cons (.refl _) AVsle.nil))) hw
theorem pick13_pure (x : Sb) (kids : AV) (w : Ws) (c : Ce) (hp : preS w c) (ha : x.arm = 0 ∨ x.arm = 1) (hpi : 0 ≤ partIx c x.part) : Pure Tryz.prog 83 [c.av, .agg (x.cells kids), w.av] (stAV (pickR x w c)) := by
  have hst := hp.1
  have hw := hp.2.wok hp.1
  have hpw : (partIx c x.part).toNat < w.wher.length := by rw [hst.len]; exact partIx_lt hpi
  have hv := hst.vals _ hpw
  have hg := ics_get hpw
  have hpl : c.parts.length ≤ 1000000 := by have := hp.2.parts8; omega
  refine pure_val fun σ ns _ => ?_; refine acalls_of_wpc Tryz.mixed Tryz.dr83 Tryz.func83 rfl (Tryz.fit83 _ rfl) Tryz.en83 (fun hσ => ?_); simp [Tryz.ntmps83]
  first | refine Pure.use_le (part13_pure c x.part hpl) ?_ | refine callT_le (part13_pure c x.part hpl) ?_
  generalize hP : partIx c x.part = P at *
  obtain ⟨p, rfl⟩ := Int.eq_ofNat_of_zero_le hpi
  simp only [Int.toNat_natCast] at hg hv
  rcases ha with ha | ha <;> simp [ha]
  all_goals
    refine condK_cases (fun h1 => ?_) (fun h1 => ?_) <;> simp [h1] <;> (try simp at h1)
    · exact end_st (stAV_nil (by simp [pickR, ha, Ws.held, h1])) (by simp)
    simp [hg]
    refine condK_cases (fun h2 => ?_) (fun h2 => ?_) <;> simp [h2] <;> (try simp at h2)
    · exact end_st (stAV_nil (by simp [pickR, ha, Ws.held, h1, hP, h2])) (by simp)
    generalize hA : iat w.wher p = A at *
    obtain ⟨a, rfl⟩ := Int.eq_ofNat_of_zero_le (show 0 ≤ A by omega)
    simp [ha]
  rotate_left
  · first | refine Pure.use_le (reach13_pure w c 1 (.inr rfl) a (by omega) hw hst.fit0 hst.fit1) ?_ | refine callT_le (reach13_pure w c 1 (.inr rfl) a (by omega) hw hst.fit0 hst.fit1) ?_
    simp
    refine condK_cases (fun h3 => ?_) (fun h3 => ?_) <;> simp [h3] <;> (try simp at h3)
    · exact end_st (stAV_nil (by simp [pickR, ha, Ws.held, h1, hP, hA, h2, h3])) (by simp)
    simp [ha]
    first | refine Pure.use_le (gone_pure 1 (.inr rfl) (reachM w c 1 a).1) ?_ | refine callT_le (gone_pure 1 (.inr rfl) (reachM w c 1 a).1) ?_
    simp [ha]
    exact end_sl (l := [goStep 1 (reachM w c 1 a).1, ⟨3, 1, p, a, 0, j0', j0'⟩]) (by simp [pickR, ha, Ws.held, h1, hP, hA, h2, h3]) (by simp [spcs, goStep, j0']) (by simp) AVLe.le
  · first | refine Pure.use_le (reach13_pure w c 0 (.inl rfl) a (by omega) hw hst.fit0 hst.fit1) ?_ | refine callT_le (reach13_pure w c 0 (.inl rfl) a (by omega) hw hst.fit0 hst.fit1) ?_
    simp
    refine condK_cases (fun h3 => ?_) (fun h3 => ?_) <;> simp [h3] <;> (try simp at h3)
    · exact end_st (stAV_nil (by simp [pickR, ha, Ws.held, h1, hP, hA, h2, h3])) (by simp)
    simp [ha]
    first | refine Pure.use_le (gone_pure 0 (.inl rfl) (reachM w c 0 a).1) ?_ | refine callT_le (gone_pure 0 (.inl rfl) (reachM w c 0 a).1) ?_
    simp [ha]
    exact end_sl (l := [goStep 0 (reachM w c 0 a).1, ⟨3, 0, p, a, 0, j0', j0'⟩]) (by simp [pickR, ha, Ws.held, h1, hP, hA, h2, h3]) (by simp [spcs, goStep, j0']) (by simp) AVLe.le
set_option maxHeartbeats 4000000 in
theorem put13_pure (x : Sb) (kids : AV) (w : Ws) (c : Ce) (hp : preS w c) (ha : x.arm = 0 ∨ x.arm = 1) (hk : x.kind = 4 ∨ x.kind = 5) (hpi : 0 ≤ placeIx c x.place) : Pure Tryz.prog 84 [c.av, .agg (x.cells kids), w.av] (stAV (putR x w c)) := by
  have hst := hp.1
  have hw := hp.2.wok hp.1
  have hpb := placeIx_lt hpi
  have hwl : w.wher.length ≤ 1000000000 := by have := hp.2.parts8; have := hst.len; omega
  have hpl : c.places.length ≤ 1000000 := by have := hp.2.places16; omega
  refine pure_val fun σ ns _ => ?_; refine acalls_of_wpc Tryz.mixed Tryz.dr84 Tryz.func84 rfl (Tryz.fit84 _ rfl) Tryz.en84 (fun hσ => ?_); simp [Tryz.ntmps84]
  rcases ha with ha | ha <;> rcases hk with hk | hk
  · have k4 : (x.kind == 4) = true := by simp [hk]
    have k5 : (x.kind == 5) = false := by simp [hk]
    simp [ha]
    first | refine Pure.use_le (place13_pure c x.place hpl) ?_ | refine callT_le (place13_pure c x.place hpl) ?_
    generalize hP : placeIx c x.place = P at *
    obtain ⟨a, rfl⟩ := Int.eq_ofNat_of_zero_le hpi
    simp only [Int.toNat_natCast] at hpb
    simp
    refine condK_cases (fun h1 => ?_) (fun h1 => ?_) <;> simp [h1] <;> (try simp at h1)
    · exact end_st (stAV_nil (by simp [putR, ha, Ws.held, h1])) (by simp)
    simp [k5]
    first | refine Pure.use_le (Full_pure w (a : Int) hwl) ?_ | refine callT_le (Full_pure w (a : Int) hwl) ?_
    simp
    refine condK_cases (fun h3 => ?_) (fun h3 => ?_) <;> simp [h3] <;> (try simp at h3)
    · exact end_st (stAV_nil (by simp [putR, ha, Ws.held, h1, hk, hP, h3])) (by simp)
    simp [ha]
    first | refine Pure.use_le (reach13_pure w c 0 (.inl rfl) a hpb hw hst.fit0 hst.fit1) ?_ | refine callT_le (reach13_pure w c 0 (.inl rfl) a hpb hw hst.fit0 hst.fit1) ?_
    simp
    refine condK_cases (fun h4 => ?_) (fun h4 => ?_) <;> simp [h4] <;> (try simp at h4)
    · exact end_st (stAV_nil (by simp [putR, ha, Ws.held, h1, hk, hP, h3, h4])) (by simp)
    simp [ha]
    first | refine Pure.use_le (gone_pure 0 (.inl rfl) (reachM w c 0 a).1) ?_ | refine callT_le (gone_pure 0 (.inl rfl) (reachM w c 0 a).1) ?_
    simp [ha, k4]
    exact end_sl (l := [goStep 0 (reachM w c 0 a).1, ⟨4, 0, w.l0, a, 0, j0', j0'⟩]) (by simp [putR, ha, Ws.held, h1, hk, hP, h3, h4]) (by simp [spcs, goStep, j0']) (by simp) AVLe.le
  · have k4 : (x.kind == 4) = false := by simp [hk]
    have k5 : (x.kind == 5) = true := by simp [hk]
    simp [ha]
    first | refine Pure.use_le (place13_pure c x.place hpl) ?_ | refine callT_le (place13_pure c x.place hpl) ?_
    generalize hP : placeIx c x.place = P at *
    obtain ⟨a, rfl⟩ := Int.eq_ofNat_of_zero_le hpi
    simp only [Int.toNat_natCast] at hpb
    simp
    refine condK_cases (fun h1 => ?_) (fun h1 => ?_) <;> simp [h1] <;> (try simp at h1)
    · exact end_st (stAV_nil (by simp [putR, ha, Ws.held, h1])) (by simp)
    simp [k5]
    refine condK_cases (fun h2 => ?_) (fun h2 => ?_) <;> simp [h2] <;> (try simp at h2)
    · exact end_st (stAV_nil (by simp [putR, ha, Ws.held, h1, hk, h2])) (by simp)
    first | refine Pure.use_le (Full_pure w (a : Int) hwl) ?_ | refine callT_le (Full_pure w (a : Int) hwl) ?_
    simp
    refine condK_cases (fun h3 => ?_) (fun h3 => ?_) <;> simp [h3] <;> (try simp at h3)
    · exact end_st (stAV_nil (by simp [putR, ha, Ws.held, h1, hk, hP, h3, h2])) (by simp)
    simp [ha]
    first | refine Pure.use_le (reach13_pure w c 0 (.inl rfl) a hpb hw hst.fit0 hst.fit1) ?_ | refine callT_le (reach13_pure w c 0 (.inl rfl) a hpb hw hst.fit0 hst.fit1) ?_
    simp
    refine condK_cases (fun h4 => ?_) (fun h4 => ?_) <;> simp [h4] <;> (try simp at h4)
    · exact end_st (stAV_nil (by simp [putR, ha, Ws.held, h1, hk, hP, h3, h4, h2])) (by simp)
    simp [ha]
    first | refine Pure.use_le (gone_pure 0 (.inl rfl) (reachM w c 0 a).1) ?_ | refine callT_le (gone_pure 0 (.inl rfl) (reachM w c 0 a).1) ?_
    simp [ha, k4]
    first | refine Pure.use_le (reach13_pure w c 1 (.inr rfl) a hpb hw hst.fit0 hst.fit1) ?_ | refine callT_le (reach13_pure w c 1 (.inr rfl) a hpb hw hst.fit0 hst.fit1) ?_
    simp
    refine condK_cases (fun h5 => ?_) (fun h5 => ?_) <;> simp [h5] <;> (try simp at h5)
    · exact end_st (stAV_nil (by simp [putR, ha, Ws.held, h1, hk, hP, h3, h4, h5, h2])) (by simp)
    simp [ha]
    first | refine Pure.use_le (gone_pure 0 (.inl rfl) w.q0) ?_ | refine callT_le (gone_pure 0 (.inl rfl) w.q0) ?_
    simp [ha]
    first | refine Pure.use_le (gone_pure 1 (.inr rfl) (reachM w c 1 a).1) ?_ | refine callT_le (gone_pure 1 (.inr rfl) (reachM w c 1 a).1) ?_
    simp
    refine end_sl (l := [goStep 0 (reachM w c 0 a).1, ⟨4, 0, w.l0, a, 0, j0', j0'⟩, goStep 0 w.q0, goStep 1 (reachM w c 1 a).1, ⟨3, 1, w.l0, a, 0, j0', j0'⟩]) (by simp [putR, ha, Ws.held, Ws.q, h1, hk, hP, h3, h4, h5, h2]) (by simp [spcs, goStep, j0']) (by simp) ?_
    exact AVle.unk
  · have k4 : (x.kind == 4) = true := by simp [hk]
    have k5 : (x.kind == 5) = false := by simp [hk]
    simp [ha]
    first | refine Pure.use_le (place13_pure c x.place hpl) ?_ | refine callT_le (place13_pure c x.place hpl) ?_
    generalize hP : placeIx c x.place = P at *
    obtain ⟨a, rfl⟩ := Int.eq_ofNat_of_zero_le hpi
    simp only [Int.toNat_natCast] at hpb
    simp
    refine condK_cases (fun h1 => ?_) (fun h1 => ?_) <;> simp [h1] <;> (try simp at h1)
    · exact end_st (stAV_nil (by simp [putR, ha, Ws.held, h1])) (by simp)
    simp [k5]
    first | refine Pure.use_le (Full_pure w (a : Int) hwl) ?_ | refine callT_le (Full_pure w (a : Int) hwl) ?_
    simp
    refine condK_cases (fun h3 => ?_) (fun h3 => ?_) <;> simp [h3] <;> (try simp at h3)
    · exact end_st (stAV_nil (by simp [putR, ha, Ws.held, h1, hk, hP, h3])) (by simp)
    simp [ha]
    first | refine Pure.use_le (reach13_pure w c 1 (.inr rfl) a hpb hw hst.fit0 hst.fit1) ?_ | refine callT_le (reach13_pure w c 1 (.inr rfl) a hpb hw hst.fit0 hst.fit1) ?_
    simp
    refine condK_cases (fun h4 => ?_) (fun h4 => ?_) <;> simp [h4] <;> (try simp at h4)
    · exact end_st (stAV_nil (by simp [putR, ha, Ws.held, h1, hk, hP, h3, h4])) (by simp)
    simp [ha]
    first | refine Pure.use_le (gone_pure 1 (.inr rfl) (reachM w c 1 a).1) ?_ | refine callT_le (gone_pure 1 (.inr rfl) (reachM w c 1 a).1) ?_
    simp [ha, k4]
    exact end_sl (l := [goStep 1 (reachM w c 1 a).1, ⟨4, 1, w.l1, a, 0, j0', j0'⟩]) (by simp [putR, ha, Ws.held, h1, hk, hP, h3, h4]) (by simp [spcs, goStep, j0']) (by simp) AVLe.le
  · have k4 : (x.kind == 4) = false := by simp [hk]
    have k5 : (x.kind == 5) = true := by simp [hk]
    simp [ha]
    first | refine Pure.use_le (place13_pure c x.place hpl) ?_ | refine callT_le (place13_pure c x.place hpl) ?_
    generalize hP : placeIx c x.place = P at *
    obtain ⟨a, rfl⟩ := Int.eq_ofNat_of_zero_le hpi
    simp only [Int.toNat_natCast] at hpb
    simp
    refine condK_cases (fun h1 => ?_) (fun h1 => ?_) <;> simp [h1] <;> (try simp at h1)
    · exact end_st (stAV_nil (by simp [putR, ha, Ws.held, h1])) (by simp)
    simp [k5]
    refine condK_cases (fun h2 => ?_) (fun h2 => ?_) <;> simp [h2] <;> (try simp at h2)
    · exact end_st (stAV_nil (by simp [putR, ha, Ws.held, h1, hk, h2])) (by simp)
    first | refine Pure.use_le (Full_pure w (a : Int) hwl) ?_ | refine callT_le (Full_pure w (a : Int) hwl) ?_
    simp
    refine condK_cases (fun h3 => ?_) (fun h3 => ?_) <;> simp [h3] <;> (try simp at h3)
    · exact end_st (stAV_nil (by simp [putR, ha, Ws.held, h1, hk, hP, h3, h2])) (by simp)
    simp [ha]
    first | refine Pure.use_le (reach13_pure w c 1 (.inr rfl) a hpb hw hst.fit0 hst.fit1) ?_ | refine callT_le (reach13_pure w c 1 (.inr rfl) a hpb hw hst.fit0 hst.fit1) ?_
    simp
    refine condK_cases (fun h4 => ?_) (fun h4 => ?_) <;> simp [h4] <;> (try simp at h4)
    · exact end_st (stAV_nil (by simp [putR, ha, Ws.held, h1, hk, hP, h3, h4, h2])) (by simp)
    simp [ha]
    first | refine Pure.use_le (gone_pure 1 (.inr rfl) (reachM w c 1 a).1) ?_ | refine callT_le (gone_pure 1 (.inr rfl) (reachM w c 1 a).1) ?_
    simp [ha, k4]
    first | refine Pure.use_le (reach13_pure w c 0 (.inl rfl) a hpb hw hst.fit0 hst.fit1) ?_ | refine callT_le (reach13_pure w c 0 (.inl rfl) a hpb hw hst.fit0 hst.fit1) ?_
    simp
    refine condK_cases (fun h5 => ?_) (fun h5 => ?_) <;> simp [h5] <;> (try simp at h5)
    · exact end_st (stAV_nil (by simp [putR, ha, Ws.held, h1, hk, hP, h3, h4, h5, h2])) (by simp)
    simp [ha]
    first | refine Pure.use_le (gone_pure 1 (.inr rfl) w.q1) ?_ | refine callT_le (gone_pure 1 (.inr rfl) w.q1) ?_
    simp [ha]
    first | refine Pure.use_le (gone_pure 0 (.inl rfl) (reachM w c 0 a).1) ?_ | refine callT_le (gone_pure 0 (.inl rfl) (reachM w c 0 a).1) ?_
    simp
    refine end_sl (l := [goStep 1 (reachM w c 1 a).1, ⟨4, 1, w.l1, a, 0, j0', j0'⟩, goStep 1 w.q1, goStep 0 (reachM w c 0 a).1, ⟨3, 0, w.l1, a, 0, j0', j0'⟩]) (by simp [putR, ha, Ws.held, Ws.q, h1, hk, hP, h3, h4, h5, h2]) (by simp [spcs, goStep, j0']) (by simp) ?_
    exact AVle.unk
end Go.Proofs
