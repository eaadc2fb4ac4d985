/- Expansion: the walk of put. -/
import Derived.Test.YtnanajdckbfamaaGreatDoorX8
set_option linter.unusedVariables false
set_option linter.unusedSimpArgs false
set_option maxRecDepth 100000
namespace Go.Proofs
open Go Go.Abs
attribute [local irreducible] wpc aSeq awAny endA guardK condK CallK callT aPlan onlyL takeL aeffK takeE loopG bodyA thenA inBlockA planK roundG assignG bodyI endI YieldK unrollG endP
theorem cut_ {A B : Prop} (h : A → B) (a : A) : B := h a
/-- A call of reach, its answer known. -/
theorem reach_use {w : Ws} {c : Ce} {o : AV} {i : Int} (hi : i = 0 ∨ i = 1) {a : Nat} (ha : a < c.places.length) (hp : placeOkP (plat c.places a)) (hw : WOk w c) (f0 : fits c.a0 w.q0 = true) (f1 : fits c.a1 w.q1 = true) {m n : Nm} {dst : Option Tmp} {K : AS → Prop} {Q : AExit → AS → Prop} {s : AS} (hn : s.st n = some (.var (wkC w c o)))
    (h1 : (reachM w c i a).2 = true → K (s.put dst (reachM w c i a).1.av)) (h2 : (reachM w c i a).2 = false → Q (.panic (errv 134)) s.bump) : CallK Tryz.prog 107 [.ptr n 0, .int .i64 i, .int .i64 a] m dst K Q s := by
  refine CallK.of (reach_calls w c o i hi a ha hp hw f0 f1 s.st m n hn) ?_ ?_
  · rintro v σ' ⟨rfl, hr⟩
    split at hr
    · rename_i h; injection hr with hr; subst hr; exact h1 h
    · cases hr
  · rintro v σ' ⟨rfl, hr⟩
    split at hr
    · cases hr
    · rename_i h; injection hr with hr; subst hr; exact h2 (by simpa using h)
def putM (x : Sb) (w : Ws) (c : Ce) (l : List Sp) : Out :=
  if ¬ 0 ≤ w.held x.arm then .error 131 else if ¬ (x.kind = 4 ∨ w.held (1 - x.arm) < 0) then .error 130 else if placeIx c x.place ∈ w.wher then .error 133 else
  if (reachM w c x.arm (placeIx c x.place).toNat).2 = false then .error 134 else
  andThen (stepM (goStep x.arm (reachM w c x.arm (placeIx c x.place).toNat).1) w c l) fun w1 l1 =>
  andThen (stepM ⟨4, x.arm, w.held x.arm, placeIx c x.place, 0, j0', j0'⟩ w1 c l1) fun w2 l2 =>
  if x.kind = 4 then .ok (w2, l2) else
  if (reachM w2 c (1 - x.arm) (placeIx c x.place).toNat).2 = false then .error 134 else
  andThen (stepM (goStep x.arm (w.q x.arm)) w2 c l2) fun w3 l3 =>
  andThen (stepM (goStep (1 - x.arm) (reachM w2 c (1 - x.arm) (placeIx c x.place).toNat).1) w3 c l3) fun w4 l4 =>
  stepM ⟨3, 1 - x.arm, w.held x.arm, placeIx c x.place, 0, j0', j0'⟩ w4 c l4
set_option maxHeartbeats 16000000 in
theorem put_sc (x : Sb) (kids : AV) (hi : x.arm = 0 ∨ x.arm = 1) : SC 78 [.agg (x.cells kids)] (putM x) (fun w c => preS w c ∧ 0 ≤ placeIx c x.place) 9000 := by
  rintro w c l t B ns n ⟨⟨hst, hrc⟩, hpi⟩ hB ht hl
  have hw := hrc.wok hst
  have ha := placeIx_lt hpi
  have hp8 := hrc.parts8
  have hp16 := hrc.places16
  have hlw := hst.len
  have hplen : c.places.length ≤ 1000000 := by omega
  refine acalls_val fun ns _ hns => ?_; refine acalls_of_wpc Tryz.mixed Tryz.dr78 Tryz.func78 rfl (Tryz.fit78 _ rfl) Tryz.en78 (fun hσ => ?_); simp [Tryz.ntmps78]
  have ow := Own.of hσ
  have hnt := ht.ne
  generalize hout : putM x w c l = out
  unfold putM at hout
  generalize hP : placeIx c x.place = P at *
  obtain ⟨a, rfl⟩ := Int.eq_ofNat_of_zero_le hpi
  simp only [Int.toNat_natCast] at ha hout
  rcases hi with hi | hi <;> rw [hi] at hout
  · simp [ow.nn, ow.n2, hnt, ow.tn, hi]
    apply cut_
    · intro key
      repeat' apply And.intro
      all_goals
        refine CallK.use (place_calls w c (ge 11 t (spcs l)) x.place hplen _ _ n (by simp [ow.nn, ow.n2, hnt, ow.tn])) ?_
        simp [ow.nn, ow.n2, hnt, ow.tn, hi, hP]
        exact key
    · skip
      refine check_use (by decide) (fun h1 => ?_) (fun h1 => ?_) <;> simp
      rotate_left
      · exact sc_err (by rw [← hout]; exact if_pos (by simp at h1 ⊢; omega)) (StWk.own_up (StWk.own_gs (StWk.own_up (.refl _) hB) (fun m hm => (ht.fresh m hm).1)) (ow.base _ (by simp [Nm.under])))
      rw [if_neg (by simp at h1 ⊢; omega)] at hout
      simp at h1
      obtain ⟨p, hp⟩ := Int.eq_ofNat_of_zero_le h1
      have hp' : w.held 0 = p := hp
      simp [ow.nn, ow.n2, hnt, ow.tn, hi]
      refine guardK_cases (fun g1 => ?_) (fun g1 => ?_) <;> simp [g1, ow.nn, ow.n2, hnt, ow.tn, hi]
      · have h4 : x.kind = 4 := by simpa using g1
        refine Pure.use (check_pure 130) ?_
        rw [if_neg (by simp [h4])] at hout
        simp [ow.nn, ow.n2, hnt, ow.tn, hP]
        first | refine Pure.use_le (index_pure w.wher (a : Int) (by omega)) ?_ | refine callT_le (index_pure w.wher (a : Int) (by omega)) ?_
        simp
        refine check_use (by decide) (fun h2 => ?_) (fun h2 => ?_) <;> simp
        rotate_left
        · exact sc_err (by rw [← hout]; exact if_pos (by simpa using h2)) (StWk.own_up (StWk.own_gs (StWk.own_up (.refl _) hB) (fun m hm => (ht.fresh m hm).1)) (ow.base _ (by simp [Nm.under])))
        rw [if_neg (by simpa using h2)] at hout
        simp [ow.nn, ow.n2, hnt, ow.tn, hi]
        cases h3 : (reachM w c 0 a).2 with
        | false =>
          refine ⟨?_, ?_⟩
          all_goals
            refine reach_use (w := w) (c := c) (o := ge 11 t (spcs l)) (.inl rfl) ha (hrc.place ha) hw hst.fit0 hst.fit1 (by simp [ow.nn, ow.n2, hnt, ow.tn]) (fun h => by rw [h3] at h; cases h) (fun _ => ?_)
            simp
            exact sc_err (by rw [← hout]; exact if_pos h3) (by repeat' first | exact StWk.refl _ | exact gs_both (StWk.both (by repeat' first | exact StWk.refl _ | refine StWk.own_up ?_ (ow.base _ (by simp [Nm.under]))) (.inl rfl)) | refine StWk.own_up ?_ (by first | exact hB | exact ow.base _ (by simp [Nm.under])) | refine StWk.own_gs ?_ (fun m hm => (ht.fresh m hm).1))
        | true =>
          apply cut_
          · intro key
            refine ⟨?_, ?_⟩
            all_goals
              refine reach_use (w := w) (c := c) (o := ge 11 t (spcs l)) (.inl rfl) ha (hrc.place ha) hw hst.fit0 hst.fit1 (by simp [ow.nn, ow.n2, hnt, ow.tn]) (fun _ => ?_) (fun h => by rw [h3] at h; cases h)
              simp [ow.nn, ow.n2, hnt, ow.tn, hi]
              exact key
          · rw [if_neg (by simp [h3])] at hout
            generalize reachM w c 0 a = rq at *
            rw [gs_swap (x := (ns.sub 0).sub 0) (ow.n2 _ (by simp [Nm.under])) (ow.tn _ (by simp [Nm.under])), gs_swap (x := ((ns.sub 5).sub 8)) (ow.n2 _ (by simp [Nm.under])) (ow.tn _ (by simp [Nm.under]))]
            refine (move_sc 0 (.inl rfl) rq.1).use hw (by simp [ow.nn, hB]) ((ht.up (ow.tn _ (by simp [Nm.under]))).up (ow.tn _ (by simp [Nm.under]))) (by omega) (fun y t' h ht' hs => ?_) (fun k h => ?_)
            rotate_left
            · simp
              exact sc_err (by rw [← hout]; exact andThen_err h) (by repeat' first | exact StWk.refl _ | exact gs_both (StWk.both (by repeat' first | exact StWk.refl _ | refine StWk.own_up ?_ (ow.base _ (by simp [Nm.under]))) (.inl rfl)) | refine StWk.own_up ?_ (by first | exact hB | exact ow.base _ (by simp [Nm.under])) | refine StWk.own_gs ?_ (fun m hm => (ht.fresh m hm).1))
            rw [andThen_ok h] at hout
            obtain ⟨hd, hl2⟩ := stepM_inv h
            have hx1 : ¬ t' = some ((ns.sub 0).sub 0) := ht'.down.1.down.2
            have hx2 : ¬ t' = some ((ns.sub 5).sub 8) := ht'.down.2
            simp [ow.nn, ow.n2, ht'.ne, hx1, hx2, hi, hp]
            have hs1 := doE_ok hst hd
            refine (step_sc ⟨4, 0, p, a, 0, j0', j0'⟩).use (hrc.wok hs1) (by simp [ow.nn, hB]) ht' (by rw [hl2]; simp; omega) (fun y2 t2 h2 ht2 hs2 => ?_) (fun k h => ?_)
            rotate_left
            · simp
              exact sc_err (by rw [← hout]; exact andThen_err (by rw [hp']; exact h)) (by repeat' first | exact StWk.refl _ | exact gs_both (StWk.both (by repeat' first | exact StWk.refl _ | refine StWk.own_up ?_ (ow.base _ (by simp [Nm.under]))) (.inl rfl)) | refine StWk.own_up ?_ (by first | exact hB | exact ow.base _ (by simp [Nm.under])) | refine StWk.own_gs ?_ (fun m hm => (ht.fresh m hm).1))
            rw [andThen_ok (by rw [hp']; exact h2)] at hout
            obtain ⟨hd2, hl3⟩ := stepM_inv h2
            have hx1 : ¬ t2 = some ((ns.sub 0).sub 0) := ht2.down.1.down.2
            have hx2 : ¬ t2 = some ((ns.sub 5).sub 8) := ht2.down.2
            have hss := sub_trans (sub_of (ns := ns) hs (by simp [Nm.under])) (sub_of (ns := ns) hs2 (by simp [Nm.under]))
            simp [ow.nn, ow.n2, ht2.ne, hx1, hx2, hi, g1]
            rw [if_pos h4] at hout
            exact sc_ok hout.symm ht2.down.1.down.1 hns hss (by repeat' first | exact StWk.refl _ | exact gs_both (StWk.both (by repeat' first | exact StWk.refl _ | refine StWk.own_up ?_ (ow.base _ (by simp [Nm.under]))) (.inl rfl)) | refine StWk.own_up ?_ (by first | exact hB | exact ow.base _ (by simp [Nm.under])) | refine StWk.own_gs ?_ (fun m hm => (ht.fresh m hm).1))
      · have h4 : ¬ x.kind = 4 := by simpa using g1
        refine check_use (by decide) (fun h5 => ?_) (fun h5 => ?_) <;> simp
        rotate_left
        · exact sc_err (by rw [← hout]; exact if_pos (by simp [h4] at h5 ⊢; omega)) (by repeat' first | exact StWk.refl _ | exact gs_both (StWk.both (by repeat' first | exact StWk.refl _ | refine StWk.own_up ?_ (ow.base _ (by simp [Nm.under]))) (.inl rfl)) | refine StWk.own_up ?_ (by first | exact hB | exact ow.base _ (by simp [Nm.under])) | refine StWk.own_gs ?_ (fun m hm => (ht.fresh m hm).1))
        rw [if_neg (by simp [h4] at h5 ⊢; omega)] at hout
        simp [ow.nn, ow.n2, hnt, ow.tn, hP]
        first | refine Pure.use_le (index_pure w.wher (a : Int) (by omega)) ?_ | refine callT_le (index_pure w.wher (a : Int) (by omega)) ?_
        simp
        refine check_use (by decide) (fun h2 => ?_) (fun h2 => ?_) <;> simp
        rotate_left
        · exact sc_err (by rw [← hout]; exact if_pos (by simpa using h2)) (StWk.own_up (StWk.own_gs (StWk.own_up (.refl _) hB) (fun m hm => (ht.fresh m hm).1)) (ow.base _ (by simp [Nm.under])))
        rw [if_neg (by simpa using h2)] at hout
        simp [ow.nn, ow.n2, hnt, ow.tn, hi]
        cases h3 : (reachM w c 0 a).2 with
        | false =>
          refine ⟨?_, ?_⟩
          all_goals
            refine reach_use (w := w) (c := c) (o := ge 11 t (spcs l)) (.inl rfl) ha (hrc.place ha) hw hst.fit0 hst.fit1 (by simp [ow.nn, ow.n2, hnt, ow.tn]) (fun h => by rw [h3] at h; cases h) (fun _ => ?_)
            simp
            exact sc_err (by rw [← hout]; exact if_pos h3) (by repeat' first | exact StWk.refl _ | exact gs_both (StWk.both (by repeat' first | exact StWk.refl _ | refine StWk.own_up ?_ (ow.base _ (by simp [Nm.under]))) (.inl rfl)) | refine StWk.own_up ?_ (by first | exact hB | exact ow.base _ (by simp [Nm.under])) | refine StWk.own_gs ?_ (fun m hm => (ht.fresh m hm).1))
        | true =>
          apply cut_
          · intro key
            refine ⟨?_, ?_⟩
            all_goals
              refine reach_use (w := w) (c := c) (o := ge 11 t (spcs l)) (.inl rfl) ha (hrc.place ha) hw hst.fit0 hst.fit1 (by simp [ow.nn, ow.n2, hnt, ow.tn]) (fun _ => ?_) (fun h => by rw [h3] at h; cases h)
              simp [ow.nn, ow.n2, hnt, ow.tn, hi]
              exact key
          · rw [if_neg (by simp [h3])] at hout
            generalize reachM w c 0 a = rq at *
            rw [gs_swap (x := (ns.sub 0).sub 0) (ow.n2 _ (by simp [Nm.under])) (ow.tn _ (by simp [Nm.under])), gs_swap (x := ((ns.sub 5).sub 8)) (ow.n2 _ (by simp [Nm.under])) (ow.tn _ (by simp [Nm.under]))]
            refine (move_sc 0 (.inl rfl) rq.1).use hw (by simp [ow.nn, hB]) ((ht.up (ow.tn _ (by simp [Nm.under]))).up (ow.tn _ (by simp [Nm.under]))) (by omega) (fun y t' h ht' hs => ?_) (fun k h => ?_)
            rotate_left
            · simp
              exact sc_err (by rw [← hout]; exact andThen_err h) (by repeat' first | exact StWk.refl _ | exact gs_both (StWk.both (by repeat' first | exact StWk.refl _ | refine StWk.own_up ?_ (ow.base _ (by simp [Nm.under]))) (.inl rfl)) | refine StWk.own_up ?_ (by first | exact hB | exact ow.base _ (by simp [Nm.under])) | refine StWk.own_gs ?_ (fun m hm => (ht.fresh m hm).1))
            rw [andThen_ok h] at hout
            obtain ⟨hd, hl2⟩ := stepM_inv h
            have hx1 : ¬ t' = some ((ns.sub 0).sub 0) := ht'.down.1.down.2
            have hx2 : ¬ t' = some ((ns.sub 5).sub 8) := ht'.down.2
            simp [ow.nn, ow.n2, ht'.ne, hx1, hx2, hi, hp]
            have hs1 := doE_ok hst hd
            refine (step_sc ⟨4, 0, p, a, 0, j0', j0'⟩).use (hrc.wok hs1) (by simp [ow.nn, hB]) ht' (by rw [hl2]; simp; omega) (fun y2 t2 h2 ht2 hs2 => ?_) (fun k h => ?_)
            rotate_left
            · simp
              exact sc_err (by rw [← hout]; exact andThen_err (by rw [hp']; exact h)) (by repeat' first | exact StWk.refl _ | exact gs_both (StWk.both (by repeat' first | exact StWk.refl _ | refine StWk.own_up ?_ (ow.base _ (by simp [Nm.under]))) (.inl rfl)) | refine StWk.own_up ?_ (by first | exact hB | exact ow.base _ (by simp [Nm.under])) | refine StWk.own_gs ?_ (fun m hm => (ht.fresh m hm).1))
            rw [andThen_ok (by rw [hp']; exact h2)] at hout
            obtain ⟨hd2, hl3⟩ := stepM_inv h2
            have hx1 : ¬ t2 = some ((ns.sub 0).sub 0) := ht2.down.1.down.2
            have hx2 : ¬ t2 = some ((ns.sub 5).sub 8) := ht2.down.2
            have hss := sub_trans (sub_of (ns := ns) hs (by simp [Nm.under])) (sub_of (ns := ns) hs2 (by simp [Nm.under]))
            simp [ow.nn, ow.n2, ht2.ne, hx1, hx2, hi, g1]
            rw [if_neg h4] at hout
            have hs2' := doE_ok hs1 hd2
            refine reach_use (w := y2.1) (c := c) (o := ge 11 t2 (spcs y2.2)) (.inr rfl) ha (hrc.place ha) (hrc.wok hs2') hs2'.fit0 hs2'.fit1 (by simp [ow.nn, ow.n2, ht2.ne, hx1, hx2]) (fun h6 => ?_) (fun h6 => ?_)
            rotate_left
            · simp
              exact sc_err (by rw [← hout]; exact if_pos h6) (StWk.own_gs (StWk.own_up (by repeat' first | exact StWk.refl _ | refine StWk.own_up ?_ (ow.base _ (by simp [Nm.under]))) hB) (fun m hm => (ht2.down.1.down.1.fresh m hm).1))
            · rw [show (1 : Int) - 0 = 1 from rfl] at hout
              rw [if_neg (by simp [h6])] at hout
              generalize reachM y2.1 c 1 a = rq2 at *
              simp [ow.nn, ow.n2, ht2.ne, hx1, hx2, hi]
              have hx3 : ¬ t2 = some ((ns.sub 9).sub 6) := fun e => (hs2 _ e).elim (fun e => (hs _ e).elim (ow.tn _ (by simp [Nm.under])) (by simp [Nm.under])) (by simp [Nm.under])
              rw [gs_swap (x := (ns.sub 9).sub 6) (ow.n2 _ (by simp [Nm.under])) hx3]
              rw [show w.q 0 = w.q0 from rfl] at hout
              refine (move_sc 0 (.inl rfl) w.q0).use (hrc.wok hs2') (by simp [ow.nn, hB]) (ht2.up hx3) (by rw [hl3, hl2]; simp; omega) (fun y3 t3 h3' ht3 hs3 => ?_) (fun k h => ?_)
              rotate_left
              · simp
                exact sc_err (by rw [← hout]; exact andThen_err h) (by repeat' first | exact StWk.refl _ | exact gs_both (StWk.both (by repeat' first | exact StWk.refl _ | refine StWk.own_up ?_ (ow.base _ (by simp [Nm.under]))) (.inl rfl)) | refine StWk.own_up ?_ (by first | exact hB | exact ow.base _ (by simp [Nm.under])) | refine StWk.own_gs ?_ (fun m hm => (ht.fresh m hm).1))
              rw [andThen_ok h3'] at hout
              obtain ⟨hd3, hl4⟩ := stepM_inv h3'
              have hs3' := doE_ok hs2' hd3
              have hx1 : ¬ t3 = some ((ns.sub 0).sub 0) := ht3.down.1.down.1.down.2
              have hx2 : ¬ t3 = some ((ns.sub 5).sub 8) := ht3.down.1.down.2
              have hx3 : ¬ t3 = some ((ns.sub 9).sub 6) := ht3.down.2
              simp [ow.nn, ow.n2, ht3.ne, hx1, hx2, hx3, hi]
              refine (move_sc 1 (.inr rfl) rq2.1).use (hrc.wok hs3') (by simp [ow.nn, hB]) ht3 (by rw [hl4, hl3, hl2]; simp; omega) (fun y4 t4 h4' ht4 hs4 => ?_) (fun k h => ?_)
              rotate_left
              · simp
                exact sc_err (by rw [← hout]; exact andThen_err h) (by repeat' first | exact StWk.refl _ | exact gs_both (StWk.both (by repeat' first | exact StWk.refl _ | refine StWk.own_up ?_ (ow.base _ (by simp [Nm.under]))) (.inl rfl)) | refine StWk.own_up ?_ (by first | exact hB | exact ow.base _ (by simp [Nm.under])) | refine StWk.own_gs ?_ (fun m hm => (ht.fresh m hm).1))
              rw [andThen_ok h4'] at hout
              obtain ⟨hd4, hl5⟩ := stepM_inv h4'
              have hs4' := doE_ok hs3' hd4
              have hx1 : ¬ t4 = some ((ns.sub 0).sub 0) := ht4.down.1.down.1.down.2
              have hx2 : ¬ t4 = some ((ns.sub 5).sub 8) := ht4.down.1.down.2
              have hx3 : ¬ t4 = some ((ns.sub 9).sub 6) := ht4.down.2
              simp [ow.nn, ow.n2, ht4.ne, hx1, hx2, hx3, hi]
              refine (step_sc ⟨3, 1, p, a, 0, j0', j0'⟩).use (hrc.wok hs4') (by simp [ow.nn, hB]) ht4 (by rw [hl5, hl4, hl3, hl2]; simp; omega) (fun y5 t5 h5' ht5 hs5 => ?_) (fun k h => ?_)
              rotate_left
              · simp
                exact sc_err (by rw [← hout, hp']; exact h) (by repeat' first | exact StWk.refl _ | exact gs_both (StWk.both (by repeat' first | exact StWk.refl _ | refine StWk.own_up ?_ (ow.base _ (by simp [Nm.under]))) (.inl rfl)) | refine StWk.own_up ?_ (by first | exact hB | exact ow.base _ (by simp [Nm.under])) | refine StWk.own_gs ?_ (fun m hm => (ht.fresh m hm).1))
              simp
              exact sc_ok (by rw [← hout, hp']; exact h5') ht5.down.1.down.1.down.1 hns (sub_trans hss (sub_trans (sub_of (ns := ns) hs3 (by simp [Nm.under])) (sub_trans (sub_of (ns := ns) hs4 (by simp [Nm.under])) (sub_of (ns := ns) hs5 (by simp [Nm.under]))))) (by repeat' first | exact StWk.refl _ | exact gs_both (StWk.both (by repeat' first | exact StWk.refl _ | refine StWk.own_up ?_ (ow.base _ (by simp [Nm.under]))) (.inl rfl)) | refine StWk.own_up ?_ (by first | exact hB | exact ow.base _ (by simp [Nm.under])) | refine StWk.own_gs ?_ (fun m hm => (ht.fresh m hm).1))
  · simp [ow.nn, ow.n2, hnt, ow.tn, hi]
    apply cut_
    · intro key
      repeat' apply And.intro
      all_goals
        refine CallK.use (place_calls w c (ge 11 t (spcs l)) x.place hplen _ _ n (by simp [ow.nn, ow.n2, hnt, ow.tn])) ?_
        simp [ow.nn, ow.n2, hnt, ow.tn, hi, hP]
        exact key
    · skip
      refine check_use (by decide) (fun h1 => ?_) (fun h1 => ?_) <;> simp
      rotate_left
      · exact sc_err (by rw [← hout]; exact if_pos (by simp at h1 ⊢; omega)) (StWk.own_up (StWk.own_gs (StWk.own_up (.refl _) hB) (fun m hm => (ht.fresh m hm).1)) (ow.base _ (by simp [Nm.under])))
      rw [if_neg (by simp at h1 ⊢; omega)] at hout
      simp at h1
      obtain ⟨p, hp⟩ := Int.eq_ofNat_of_zero_le h1
      have hp' : w.held 1 = p := hp
      simp [ow.nn, ow.n2, hnt, ow.tn, hi]
      refine guardK_cases (fun g1 => ?_) (fun g1 => ?_) <;> simp [g1, ow.nn, ow.n2, hnt, ow.tn, hi]
      · have h4 : x.kind = 4 := by simpa using g1
        refine Pure.use (check_pure 130) ?_
        rw [if_neg (by simp [h4])] at hout
        simp [ow.nn, ow.n2, hnt, ow.tn, hP]
        first | refine Pure.use_le (index_pure w.wher (a : Int) (by omega)) ?_ | refine callT_le (index_pure w.wher (a : Int) (by omega)) ?_
        simp
        refine check_use (by decide) (fun h2 => ?_) (fun h2 => ?_) <;> simp
        rotate_left
        · exact sc_err (by rw [← hout]; exact if_pos (by simpa using h2)) (StWk.own_up (StWk.own_gs (StWk.own_up (.refl _) hB) (fun m hm => (ht.fresh m hm).1)) (ow.base _ (by simp [Nm.under])))
        rw [if_neg (by simpa using h2)] at hout
        simp [ow.nn, ow.n2, hnt, ow.tn, hi]
        cases h3 : (reachM w c 1 a).2 with
        | false =>
          refine ⟨?_, ?_⟩
          all_goals
            refine reach_use (w := w) (c := c) (o := ge 11 t (spcs l)) (.inr rfl) ha (hrc.place ha) hw hst.fit0 hst.fit1 (by simp [ow.nn, ow.n2, hnt, ow.tn]) (fun h => by rw [h3] at h; cases h) (fun _ => ?_)
            simp
            exact sc_err (by rw [← hout]; exact if_pos h3) (by repeat' first | exact StWk.refl _ | exact gs_both (StWk.both (by repeat' first | exact StWk.refl _ | refine StWk.own_up ?_ (ow.base _ (by simp [Nm.under]))) (.inl rfl)) | refine StWk.own_up ?_ (by first | exact hB | exact ow.base _ (by simp [Nm.under])) | refine StWk.own_gs ?_ (fun m hm => (ht.fresh m hm).1))
        | true =>
          apply cut_
          · intro key
            refine ⟨?_, ?_⟩
            all_goals
              refine reach_use (w := w) (c := c) (o := ge 11 t (spcs l)) (.inr rfl) ha (hrc.place ha) hw hst.fit0 hst.fit1 (by simp [ow.nn, ow.n2, hnt, ow.tn]) (fun _ => ?_) (fun h => by rw [h3] at h; cases h)
              simp [ow.nn, ow.n2, hnt, ow.tn, hi]
              exact key
          · rw [if_neg (by simp [h3])] at hout
            generalize reachM w c 1 a = rq at *
            rw [gs_swap (x := (ns.sub 0).sub 0) (ow.n2 _ (by simp [Nm.under])) (ow.tn _ (by simp [Nm.under])), gs_swap (x := ((ns.sub 5).sub 8)) (ow.n2 _ (by simp [Nm.under])) (ow.tn _ (by simp [Nm.under]))]
            refine (move_sc 1 (.inr rfl) rq.1).use hw (by simp [ow.nn, hB]) ((ht.up (ow.tn _ (by simp [Nm.under]))).up (ow.tn _ (by simp [Nm.under]))) (by omega) (fun y t' h ht' hs => ?_) (fun k h => ?_)
            rotate_left
            · simp
              exact sc_err (by rw [← hout]; exact andThen_err h) (by repeat' first | exact StWk.refl _ | exact gs_both (StWk.both (by repeat' first | exact StWk.refl _ | refine StWk.own_up ?_ (ow.base _ (by simp [Nm.under]))) (.inl rfl)) | refine StWk.own_up ?_ (by first | exact hB | exact ow.base _ (by simp [Nm.under])) | refine StWk.own_gs ?_ (fun m hm => (ht.fresh m hm).1))
            rw [andThen_ok h] at hout
            obtain ⟨hd, hl2⟩ := stepM_inv h
            have hx1 : ¬ t' = some ((ns.sub 0).sub 0) := ht'.down.1.down.2
            have hx2 : ¬ t' = some ((ns.sub 5).sub 8) := ht'.down.2
            simp [ow.nn, ow.n2, ht'.ne, hx1, hx2, hi, hp]
            have hs1 := doE_ok hst hd
            refine (step_sc ⟨4, 1, p, a, 0, j0', j0'⟩).use (hrc.wok hs1) (by simp [ow.nn, hB]) ht' (by rw [hl2]; simp; omega) (fun y2 t2 h2 ht2 hs2 => ?_) (fun k h => ?_)
            rotate_left
            · simp
              exact sc_err (by rw [← hout]; exact andThen_err (by rw [hp']; exact h)) (by repeat' first | exact StWk.refl _ | exact gs_both (StWk.both (by repeat' first | exact StWk.refl _ | refine StWk.own_up ?_ (ow.base _ (by simp [Nm.under]))) (.inl rfl)) | refine StWk.own_up ?_ (by first | exact hB | exact ow.base _ (by simp [Nm.under])) | refine StWk.own_gs ?_ (fun m hm => (ht.fresh m hm).1))
            rw [andThen_ok (by rw [hp']; exact h2)] at hout
            obtain ⟨hd2, hl3⟩ := stepM_inv h2
            have hx1 : ¬ t2 = some ((ns.sub 0).sub 0) := ht2.down.1.down.2
            have hx2 : ¬ t2 = some ((ns.sub 5).sub 8) := ht2.down.2
            have hss := sub_trans (sub_of (ns := ns) hs (by simp [Nm.under])) (sub_of (ns := ns) hs2 (by simp [Nm.under]))
            simp [ow.nn, ow.n2, ht2.ne, hx1, hx2, hi, g1]
            rw [if_pos h4] at hout
            exact sc_ok hout.symm ht2.down.1.down.1 hns hss (by repeat' first | exact StWk.refl _ | exact gs_both (StWk.both (by repeat' first | exact StWk.refl _ | refine StWk.own_up ?_ (ow.base _ (by simp [Nm.under]))) (.inl rfl)) | refine StWk.own_up ?_ (by first | exact hB | exact ow.base _ (by simp [Nm.under])) | refine StWk.own_gs ?_ (fun m hm => (ht.fresh m hm).1))
      · have h4 : ¬ x.kind = 4 := by simpa using g1
        refine check_use (by decide) (fun h5 => ?_) (fun h5 => ?_) <;> simp
        rotate_left
        · exact sc_err (by rw [← hout]; exact if_pos (by simp [h4] at h5 ⊢; omega)) (by repeat' first | exact StWk.refl _ | exact gs_both (StWk.both (by repeat' first | exact StWk.refl _ | refine StWk.own_up ?_ (ow.base _ (by simp [Nm.under]))) (.inl rfl)) | refine StWk.own_up ?_ (by first | exact hB | exact ow.base _ (by simp [Nm.under])) | refine StWk.own_gs ?_ (fun m hm => (ht.fresh m hm).1))
        rw [if_neg (by simp [h4] at h5 ⊢; omega)] at hout
        simp [ow.nn, ow.n2, hnt, ow.tn, hP]
        first | refine Pure.use_le (index_pure w.wher (a : Int) (by omega)) ?_ | refine callT_le (index_pure w.wher (a : Int) (by omega)) ?_
        simp
        refine check_use (by decide) (fun h2 => ?_) (fun h2 => ?_) <;> simp
        rotate_left
        · exact sc_err (by rw [← hout]; exact if_pos (by simpa using h2)) (StWk.own_up (StWk.own_gs (StWk.own_up (.refl _) hB) (fun m hm => (ht.fresh m hm).1)) (ow.base _ (by simp [Nm.under])))
        rw [if_neg (by simpa using h2)] at hout
        simp [ow.nn, ow.n2, hnt, ow.tn, hi]
        cases h3 : (reachM w c 1 a).2 with
        | false =>
          refine ⟨?_, ?_⟩
          all_goals
            refine reach_use (w := w) (c := c) (o := ge 11 t (spcs l)) (.inr rfl) ha (hrc.place ha) hw hst.fit0 hst.fit1 (by simp [ow.nn, ow.n2, hnt, ow.tn]) (fun h => by rw [h3] at h; cases h) (fun _ => ?_)
            simp
            exact sc_err (by rw [← hout]; exact if_pos h3) (by repeat' first | exact StWk.refl _ | exact gs_both (StWk.both (by repeat' first | exact StWk.refl _ | refine StWk.own_up ?_ (ow.base _ (by simp [Nm.under]))) (.inl rfl)) | refine StWk.own_up ?_ (by first | exact hB | exact ow.base _ (by simp [Nm.under])) | refine StWk.own_gs ?_ (fun m hm => (ht.fresh m hm).1))
        | true =>
          apply cut_
          · intro key
            refine ⟨?_, ?_⟩
            all_goals
              refine reach_use (w := w) (c := c) (o := ge 11 t (spcs l)) (.inr rfl) ha (hrc.place ha) hw hst.fit0 hst.fit1 (by simp [ow.nn, ow.n2, hnt, ow.tn]) (fun _ => ?_) (fun h => by rw [h3] at h; cases h)
              simp [ow.nn, ow.n2, hnt, ow.tn, hi]
              exact key
          · rw [if_neg (by simp [h3])] at hout
            generalize reachM w c 1 a = rq at *
            rw [gs_swap (x := (ns.sub 0).sub 0) (ow.n2 _ (by simp [Nm.under])) (ow.tn _ (by simp [Nm.under])), gs_swap (x := ((ns.sub 5).sub 8)) (ow.n2 _ (by simp [Nm.under])) (ow.tn _ (by simp [Nm.under]))]
            refine (move_sc 1 (.inr rfl) rq.1).use hw (by simp [ow.nn, hB]) ((ht.up (ow.tn _ (by simp [Nm.under]))).up (ow.tn _ (by simp [Nm.under]))) (by omega) (fun y t' h ht' hs => ?_) (fun k h => ?_)
            rotate_left
            · simp
              exact sc_err (by rw [← hout]; exact andThen_err h) (by repeat' first | exact StWk.refl _ | exact gs_both (StWk.both (by repeat' first | exact StWk.refl _ | refine StWk.own_up ?_ (ow.base _ (by simp [Nm.under]))) (.inl rfl)) | refine StWk.own_up ?_ (by first | exact hB | exact ow.base _ (by simp [Nm.under])) | refine StWk.own_gs ?_ (fun m hm => (ht.fresh m hm).1))
            rw [andThen_ok h] at hout
            obtain ⟨hd, hl2⟩ := stepM_inv h
            have hx1 : ¬ t' = some ((ns.sub 0).sub 0) := ht'.down.1.down.2
            have hx2 : ¬ t' = some ((ns.sub 5).sub 8) := ht'.down.2
            simp [ow.nn, ow.n2, ht'.ne, hx1, hx2, hi, hp]
            have hs1 := doE_ok hst hd
            refine (step_sc ⟨4, 1, p, a, 0, j0', j0'⟩).use (hrc.wok hs1) (by simp [ow.nn, hB]) ht' (by rw [hl2]; simp; omega) (fun y2 t2 h2 ht2 hs2 => ?_) (fun k h => ?_)
            rotate_left
            · simp
              exact sc_err (by rw [← hout]; exact andThen_err (by rw [hp']; exact h)) (by repeat' first | exact StWk.refl _ | exact gs_both (StWk.both (by repeat' first | exact StWk.refl _ | refine StWk.own_up ?_ (ow.base _ (by simp [Nm.under]))) (.inl rfl)) | refine StWk.own_up ?_ (by first | exact hB | exact ow.base _ (by simp [Nm.under])) | refine StWk.own_gs ?_ (fun m hm => (ht.fresh m hm).1))
            rw [andThen_ok (by rw [hp']; exact h2)] at hout
            obtain ⟨hd2, hl3⟩ := stepM_inv h2
            have hx1 : ¬ t2 = some ((ns.sub 0).sub 0) := ht2.down.1.down.2
            have hx2 : ¬ t2 = some ((ns.sub 5).sub 8) := ht2.down.2
            have hss := sub_trans (sub_of (ns := ns) hs (by simp [Nm.under])) (sub_of (ns := ns) hs2 (by simp [Nm.under]))
            simp [ow.nn, ow.n2, ht2.ne, hx1, hx2, hi, g1]
            rw [if_neg h4] at hout
            have hs2' := doE_ok hs1 hd2
            refine reach_use (w := y2.1) (c := c) (o := ge 11 t2 (spcs y2.2)) (.inl rfl) ha (hrc.place ha) (hrc.wok hs2') hs2'.fit0 hs2'.fit1 (by simp [ow.nn, ow.n2, ht2.ne, hx1, hx2]) (fun h6 => ?_) (fun h6 => ?_)
            rotate_left
            · simp
              exact sc_err (by rw [← hout]; exact if_pos h6) (StWk.own_gs (StWk.own_up (by repeat' first | exact StWk.refl _ | refine StWk.own_up ?_ (ow.base _ (by simp [Nm.under]))) hB) (fun m hm => (ht2.down.1.down.1.fresh m hm).1))
            · rw [show (1 : Int) - 1 = 0 from rfl] at hout
              rw [if_neg (by simp [h6])] at hout
              generalize reachM y2.1 c 0 a = rq2 at *
              simp [ow.nn, ow.n2, ht2.ne, hx1, hx2, hi]
              have hx3 : ¬ t2 = some ((ns.sub 9).sub 6) := fun e => (hs2 _ e).elim (fun e => (hs _ e).elim (ow.tn _ (by simp [Nm.under])) (by simp [Nm.under])) (by simp [Nm.under])
              rw [gs_swap (x := (ns.sub 9).sub 6) (ow.n2 _ (by simp [Nm.under])) hx3]
              rw [show w.q 1 = w.q1 from rfl] at hout
              refine (move_sc 1 (.inr rfl) w.q1).use (hrc.wok hs2') (by simp [ow.nn, hB]) (ht2.up hx3) (by rw [hl3, hl2]; simp; omega) (fun y3 t3 h3' ht3 hs3 => ?_) (fun k h => ?_)
              rotate_left
              · simp
                exact sc_err (by rw [← hout]; exact andThen_err h) (by repeat' first | exact StWk.refl _ | exact gs_both (StWk.both (by repeat' first | exact StWk.refl _ | refine StWk.own_up ?_ (ow.base _ (by simp [Nm.under]))) (.inl rfl)) | refine StWk.own_up ?_ (by first | exact hB | exact ow.base _ (by simp [Nm.under])) | refine StWk.own_gs ?_ (fun m hm => (ht.fresh m hm).1))
              rw [andThen_ok h3'] at hout
              obtain ⟨hd3, hl4⟩ := stepM_inv h3'
              have hs3' := doE_ok hs2' hd3
              have hx1 : ¬ t3 = some ((ns.sub 0).sub 0) := ht3.down.1.down.1.down.2
              have hx2 : ¬ t3 = some ((ns.sub 5).sub 8) := ht3.down.1.down.2
              have hx3 : ¬ t3 = some ((ns.sub 9).sub 6) := ht3.down.2
              simp [ow.nn, ow.n2, ht3.ne, hx1, hx2, hx3, hi]
              refine (move_sc 0 (.inl rfl) rq2.1).use (hrc.wok hs3') (by simp [ow.nn, hB]) ht3 (by rw [hl4, hl3, hl2]; simp; omega) (fun y4 t4 h4' ht4 hs4 => ?_) (fun k h => ?_)
              rotate_left
              · simp
                exact sc_err (by rw [← hout]; exact andThen_err h) (by repeat' first | exact StWk.refl _ | exact gs_both (StWk.both (by repeat' first | exact StWk.refl _ | refine StWk.own_up ?_ (ow.base _ (by simp [Nm.under]))) (.inl rfl)) | refine StWk.own_up ?_ (by first | exact hB | exact ow.base _ (by simp [Nm.under])) | refine StWk.own_gs ?_ (fun m hm => (ht.fresh m hm).1))
              rw [andThen_ok h4'] at hout
              obtain ⟨hd4, hl5⟩ := stepM_inv h4'
              have hs4' := doE_ok hs3' hd4
              have hx1 : ¬ t4 = some ((ns.sub 0).sub 0) := ht4.down.1.down.1.down.2
              have hx2 : ¬ t4 = some ((ns.sub 5).sub 8) := ht4.down.1.down.2
              have hx3 : ¬ t4 = some ((ns.sub 9).sub 6) := ht4.down.2
              simp [ow.nn, ow.n2, ht4.ne, hx1, hx2, hx3, hi]
              refine (step_sc ⟨3, 0, p, a, 0, j0', j0'⟩).use (hrc.wok hs4') (by simp [ow.nn, hB]) ht4 (by rw [hl5, hl4, hl3, hl2]; simp; omega) (fun y5 t5 h5' ht5 hs5 => ?_) (fun k h => ?_)
              rotate_left
              · simp
                exact sc_err (by rw [← hout, hp']; exact h) (by repeat' first | exact StWk.refl _ | exact gs_both (StWk.both (by repeat' first | exact StWk.refl _ | refine StWk.own_up ?_ (ow.base _ (by simp [Nm.under]))) (.inl rfl)) | refine StWk.own_up ?_ (by first | exact hB | exact ow.base _ (by simp [Nm.under])) | refine StWk.own_gs ?_ (fun m hm => (ht.fresh m hm).1))
              simp
              exact sc_ok (by rw [← hout, hp']; exact h5') ht5.down.1.down.1.down.1 hns (sub_trans hss (sub_trans (sub_of (ns := ns) hs3 (by simp [Nm.under])) (sub_trans (sub_of (ns := ns) hs4 (by simp [Nm.under])) (sub_of (ns := ns) hs5 (by simp [Nm.under]))))) (by repeat' first | exact StWk.refl _ | exact gs_both (StWk.both (by repeat' first | exact StWk.refl _ | refine StWk.own_up ?_ (ow.base _ (by simp [Nm.under]))) (.inl rfl)) | refine StWk.own_up ?_ (by first | exact hB | exact ow.base _ (by simp [Nm.under])) | refine StWk.own_gs ?_ (fun m hm => (ht.fresh m hm).1))
end Go.Proofs
