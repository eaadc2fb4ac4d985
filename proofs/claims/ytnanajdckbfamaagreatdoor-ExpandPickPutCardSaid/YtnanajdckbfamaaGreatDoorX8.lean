/- Expansion: walks of pick and put. -/
import Derived.Test.YtnanajdckbfamaaGreatDoorX7
set_option linter.unusedVariables false
set_option linter.unusedSimpArgs false
set_option maxRecDepth 100000
namespace Go.Proofs
open Go Go.Abs
attribute [local irreducible] wpc aSeq awAny endA guardK condK CallK callT aPlan onlyL takeL aeffK takeE loopG bodyA thenA inBlockA planK roundG assignG bodyI endI YieldK unrollG endP
def andThen (x : Out) (f : Ws → List Sp → Out) : Out := match x with
  | .ok y => f y.1 y.2
  | .error k => .error k
theorem andThen_ok {x : Out} {y : Ws × List Sp} {f : Ws → List Sp → Out} (h : x = .ok y) : andThen x f = f y.1 y.2 := by rw [h]; rfl
theorem andThen_err {x : Out} {k : Int} {f : Ws → List Sp → Out} (h : x = .error k) : andThen x f = .error k := by rw [h]; rfl
theorem stepM_inv {s : Sp} {w : Ws} {c : Ce} {l : List Sp} {y : Ws × List Sp} (h : stepM s w c l = .ok y) : doE s w c = .ok y.1 ∧ y.2 = l ++ [s] := by
  unfold stepM at h
  split at h
  · injection h with h; subst h; exact ⟨by assumption, rfl⟩
  · cases h
abbrev j0' : J3 := ⟨0, 0, 0⟩
def pickM (x : Sb) (w : Ws) (c : Ce) (l : List Sp) : Out :=
  if ¬ w.held x.arm < 0 then .error 130 else if ¬ 0 ≤ iat w.wher (partIx c x.part).toNat then .error 132 else
  if (reachM w c x.arm (iat w.wher (partIx c x.part).toNat).toNat).2 = false then .error 134 else
  andThen (stepM (goStep x.arm (reachM w c x.arm (iat w.wher (partIx c x.part).toNat).toNat).1) w c l) fun w' l' =>
    stepM ⟨3, x.arm, partIx c x.part, iat w.wher (partIx c x.part).toNat, 0, j0', j0'⟩ w' c l'
def preS (w : Ws) (c : Ce) : Prop := StOk w c ∧ RightC c
theorem partIx_lt {c : Ce} {s : ByteArray} (h : 0 ≤ partIx c s) : (partIx c s).toNat < c.parts.length := by
  rcases firstIx_spec (p := fun p : Pt => decide (p.name = s)) (l := c.parts) (k := 0) with e | ⟨i, a, h1, h2, h3⟩
  · unfold partIx at h; omega
  · have hi := (List.getElem?_eq_some_iff.1 h1).1
    unfold partIx; omega
theorem placeIx_lt {c : Ce} {s : ByteArray} (h : 0 ≤ placeIx c s) : (placeIx c s).toNat < c.places.length := by
  rcases firstIx_spec (p := fun p : Pc => decide (p.name = s)) (l := c.places) (k := 0) with e | ⟨i, a, h1, h2, h3⟩
  · unfold placeIx at h; omega
  · have hi := (List.getElem?_eq_some_iff.1 h1).1
    unfold placeIx; omega
theorem pick_sc (x : Sb) (kids : AV) (hi : x.arm = 0 ∨ x.arm = 1) : SC 77 [.agg (x.cells kids)] (pickM x) (fun w c => preS w c ∧ 0 ≤ partIx c x.part) 9000 := by
  rintro w c l t B ns n ⟨⟨hst, hrc⟩, hpi⟩ hB ht hl
  have hw := hrc.wok hst
  have hpw : (partIx c x.part).toNat < w.wher.length := by rw [hst.len]; exact partIx_lt hpi
  have hg := ics_get hpw
  have hv := hst.vals _ hpw
  have hp8 := hrc.parts8
  refine acalls_val fun ns _ hns => ?_; refine acalls_of_wpc Tryz.mixed Tryz.dr77 Tryz.func77 rfl (Tryz.fit77 _ rfl) Tryz.en77 (fun hσ => ?_); simp [Tryz.ntmps77]
  have ow := Own.of hσ
  have hnt := ht.ne
  generalize hout : pickM x w c l = out
  unfold pickM at hout
  generalize hP : partIx c x.part = P at *
  obtain ⟨p, rfl⟩ := Int.eq_ofNat_of_zero_le hpi
  simp only [Int.toNat_natCast] at hg hv hpw hout
  rcases hi with hi | hi <;> rw [hi] at hout
  · simp [ow.nn, ow.n2, hnt, ow.tn, hi]
    refine check_use (by decide) (fun h1 => ?_) (fun h1 => ?_) <;> simp
    rotate_left
    · exact sc_err (by rw [← hout]; exact if_pos (by simp at h1 ⊢; omega)) (StWk.own_up (StWk.own_gs (StWk.own_up (.refl _) hB) (fun m hm => (ht.fresh m hm).1)) (ow.base _ (by simp [Nm.under])))
    rw [if_neg (by simp at h1 ⊢; omega)] at hout
    simp [ow.nn, ow.n2, hnt, ow.tn]
    refine CallK.use (part_calls w c (ge 11 t (spcs l)) x.part (by omega) _ _ n (by simp [ow.nn, ow.n2, hnt, ow.tn])) ?_
    simp [ow.nn, ow.n2, hnt, ow.tn, hP, hg]
    refine check_use (by decide) (fun h2 => ?_) (fun h2 => ?_) <;> simp
    rotate_left
    · exact sc_err (by rw [← hout]; exact if_pos (by simp at h2 ⊢; omega)) (StWk.own_up (StWk.own_gs (StWk.own_up (.refl _) hB) (fun m hm => (ht.fresh m hm).1)) (ow.base _ (by simp [Nm.under])))
    rw [if_neg (by simp at h2 ⊢; omega)] at hout
    simp at h2
    obtain ⟨a, hA⟩ := Int.eq_ofNat_of_zero_le h2
    rw [hA] at hv hout ⊢
    have ha : a < c.places.length := by omega
    simp only [Int.toNat_natCast] at hout
    simp [ow.nn, ow.n2, hnt, ow.tn, hi]
    refine ⟨?_, ?_⟩
    all_goals
      refine CallK.of (reach_calls w c (ge 11 t (spcs l)) 0 (.inl rfl) a ha (hrc.place ha) hw hst.fit0 hst.fit1 _ _ n (by simp [ow.nn, ow.n2, hnt, ow.tn])) ?_ ?_
      rotate_left
      · rintro v σ' ⟨rfl, hr⟩
        split at hr
        · cases hr
        · rename_i h3
          injection hr with hr; subst hr
          simp
          exact sc_err (by rw [← hout]; exact if_pos (by simpa using h3)) (StWk.own_up (StWk.own_gs (StWk.own_up (.refl _) hB) (fun m hm => (ht.fresh m hm).1)) (ow.base _ (by simp [Nm.under])))
      · rintro v σ' ⟨rfl, hr⟩
        split at hr
        rotate_left
        · cases hr
        rename_i h3
        injection hr with hr; subst hr
        rw [if_neg (by simp [h3])] at hout
        generalize reachM w c 0 a = rq at *
        simp [ow.nn, ow.n2, hnt, ow.tn, hi]
        rw [gs_swap (x := (ns.sub 0).sub 0) (ow.n2 _ (by simp [Nm.under])) (ow.tn _ (by simp [Nm.under]))]
        refine (move_sc 0 (.inl rfl) rq.1).use hw (by simp [ow.nn, hB]) (ht.up (ow.tn _ (by simp [Nm.under]))) (by omega) (fun y t' h ht' hs => ?_) (fun k h => ?_)
        rotate_left
        · simp
          exact sc_err (by rw [← hout]; exact andThen_err h) (StWk.own_up (.refl _) (ow.base _ (by simp [Nm.under])))
        rw [andThen_ok h] at hout
        obtain ⟨hd, hl2⟩ := stepM_inv h
        have hx' : ¬ t' = some ((ns.sub 0).sub 0) := ht'.down.2
        simp [ow.nn, ow.n2, ht'.ne, hx', hi]
        refine (step_sc ⟨3, 0, p, a, 0, j0', j0'⟩).use (hrc.wok (doE_ok hst hd)) (by simp [ow.nn, hB]) ht' (by rw [hl2]; simp; omega) (fun y2 t2 h2 ht2 hs2 => ?_) (fun k h => ?_)
        · simp
          exact sc_ok (by rw [← hout]; exact h2) ht2.down.1 hns (sub_trans (sub_of hs (by simp [Nm.under])) (sub_of hs2 (by simp [Nm.under]))) (gs_both (StWk.both (StWk.own_up (.refl _) (ow.base _ (by simp [Nm.under]))) (.inl rfl)))
        · simp
          exact sc_err (by rw [← hout]; exact h) (StWk.own_up (.refl _) (ow.base _ (by simp [Nm.under])))
  · simp [ow.nn, ow.n2, hnt, ow.tn, hi]
    refine check_use (by decide) (fun h1 => ?_) (fun h1 => ?_) <;> simp
    rotate_left
    · exact sc_err (by rw [← hout]; exact if_pos (by simp at h1 ⊢; omega)) (StWk.own_up (StWk.own_gs (StWk.own_up (.refl _) hB) (fun m hm => (ht.fresh m hm).1)) (ow.base _ (by simp [Nm.under])))
    rw [if_neg (by simp at h1 ⊢; omega)] at hout
    simp [ow.nn, ow.n2, hnt, ow.tn]
    refine CallK.use (part_calls w c (ge 11 t (spcs l)) x.part (by omega) _ _ n (by simp [ow.nn, ow.n2, hnt, ow.tn])) ?_
    simp [ow.nn, ow.n2, hnt, ow.tn, hP, hg]
    refine check_use (by decide) (fun h2 => ?_) (fun h2 => ?_) <;> simp
    rotate_left
    · exact sc_err (by rw [← hout]; exact if_pos (by simp at h2 ⊢; omega)) (StWk.own_up (StWk.own_gs (StWk.own_up (.refl _) hB) (fun m hm => (ht.fresh m hm).1)) (ow.base _ (by simp [Nm.under])))
    rw [if_neg (by simp at h2 ⊢; omega)] at hout
    simp at h2
    obtain ⟨a, hA⟩ := Int.eq_ofNat_of_zero_le h2
    rw [hA] at hv hout ⊢
    have ha : a < c.places.length := by omega
    simp only [Int.toNat_natCast] at hout
    simp [ow.nn, ow.n2, hnt, ow.tn, hi]
    refine ⟨?_, ?_⟩
    all_goals
      refine CallK.of (reach_calls w c (ge 11 t (spcs l)) 1 (.inr rfl) a ha (hrc.place ha) hw hst.fit0 hst.fit1 _ _ n (by simp [ow.nn, ow.n2, hnt, ow.tn])) ?_ ?_
      rotate_left
      · rintro v σ' ⟨rfl, hr⟩
        split at hr
        · cases hr
        · rename_i h3
          injection hr with hr; subst hr
          simp
          exact sc_err (by rw [← hout]; exact if_pos (by simpa using h3)) (StWk.own_up (StWk.own_gs (StWk.own_up (.refl _) hB) (fun m hm => (ht.fresh m hm).1)) (ow.base _ (by simp [Nm.under])))
      · rintro v σ' ⟨rfl, hr⟩
        split at hr
        rotate_left
        · cases hr
        rename_i h3
        injection hr with hr; subst hr
        rw [if_neg (by simp [h3])] at hout
        generalize reachM w c 1 a = rq at *
        simp [ow.nn, ow.n2, hnt, ow.tn, hi]
        rw [gs_swap (x := (ns.sub 0).sub 0) (ow.n2 _ (by simp [Nm.under])) (ow.tn _ (by simp [Nm.under]))]
        refine (move_sc 1 (.inr rfl) rq.1).use hw (by simp [ow.nn, hB]) (ht.up (ow.tn _ (by simp [Nm.under]))) (by omega) (fun y t' h ht' hs => ?_) (fun k h => ?_)
        rotate_left
        · simp
          exact sc_err (by rw [← hout]; exact andThen_err h) (StWk.own_up (.refl _) (ow.base _ (by simp [Nm.under])))
        rw [andThen_ok h] at hout
        obtain ⟨hd, hl2⟩ := stepM_inv h
        have hx' : ¬ t' = some ((ns.sub 0).sub 0) := ht'.down.2
        simp [ow.nn, ow.n2, ht'.ne, hx', hi]
        refine (step_sc ⟨3, 1, p, a, 0, j0', j0'⟩).use (hrc.wok (doE_ok hst hd)) (by simp [ow.nn, hB]) ht' (by rw [hl2]; simp; omega) (fun y2 t2 h2 ht2 hs2 => ?_) (fun k h => ?_)
        · simp
          exact sc_ok (by rw [← hout]; exact h2) ht2.down.1 hns (sub_trans (sub_of hs (by simp [Nm.under])) (sub_of hs2 (by simp [Nm.under]))) (gs_both (StWk.both (StWk.own_up (.refl _) (ow.base _ (by simp [Nm.under]))) (.inl rfl)))
        · simp
          exact sc_err (by rw [← hout]; exact h) (StWk.own_up (.refl _) (ow.base _ (by simp [Nm.under])))
end Go.Proofs
