/- Expansion: walks of the statements' table, of playing. -/
import Derived.Test.YtnanajdckbfamaaGreatDoorX9
import Derived.Test.YtnanajdckbfamaaGreatDoorE5
set_option linter.unusedVariables false
set_option linter.unusedSimpArgs false
set_option maxRecDepth 100000
namespace Go.Proofs
open Go Go.Abs
attribute [local irreducible] wpc aSeq awAny endA guardK condK CallK callT aPlan onlyL takeL aeffK takeE loopG bodyA thenA inBlockA planK roundG assignG bodyI endI YieldK unrollG endP
def stmtL : List (AV × AV) := [(.int .i64 1, .fn (.func 75) [] []), (.int .i64 2, .fn (.func 76) [] []), (.int .i64 3, .fn (.func 77) [] []), (.int .i64 4, .fn (.func 78) [] []), (.int .i64 5, .fn (.func 78) [] []), (.int .i64 6, .fn (.func 79) [] []), (.int .i64 8, .fn (.func 80) [] [])]
theorem stmts_calls (σ : Store) (ns : Nm) : ACalls Tryz.prog 52 [] σ ns fun e σ' => e = .ret (.map ((ns.sub 1).sub 0)) ∧ σ' = σ.up ((ns.sub 1).sub 0) (.map stmtL) := by
  refine acalls_of_wpc Tryz.mixed Tryz.dr52 Tryz.func52 rfl (Tryz.fit52 _ rfl) Tryz.en52 (fun hσ => ?_); simp [Tryz.ntmps52]
  exact endA_intro (StWk.weak (.refl _)) ⟨rfl, rfl⟩
theorem clip_pure (es : List (List AV)) : Pure Tryz.prog 50 [.sl 11 es .unk] (.sl 11 es .exact) := by
  refine pure_val fun σ ns _ => ?_; refine acalls_of_wpc Tryz.mixed Tryz.dr50 Tryz.func50 rfl (Tryz.fit50 _ rfl) Tryz.en50 (fun hσ => ?_); simp [Tryz.ntmps50]
  simp
  exact endA_eq (by simp) (by simp)
def stmtM (x : Sb) (w : Ws) (c : Ce) (l : List Sp) : Out :=
  if x.kind = 1 then stepM (goStep x.arm (x.to x.arm)) w c l else if x.kind = 2 then stepM (goStep x.arm (c.home x.arm)) w c l else if x.kind = 3 then pickM x w c l else
  if x.kind = 4 ∨ x.kind = 5 then putM x w c l else if x.kind = 6 then stepM ⟨5, 0, 0, 0, x.n, j0', j0'⟩ w c l else stepM ⟨2, 0, 0, 0, 0, x.to0, x.to1⟩ w c l
def play1M (x : Sb) (w : Ws) (c : Ce) (l : List Sp) : Out := andThen (stmtM x w c l) fun w' l' => if l'.length ≤ 300 then .ok (w', l') else .error 2
/-- A statement, not a When, that fits the cell. -/
structure SbOk (x : Sb) (c : Ce) : Prop where
  kind : (1 ≤ x.kind ∧ x.kind ≤ 6) ∨ x.kind = 8
  arm : x.arm = 0 ∨ x.arm = 1
  part : x.kind = 3 → 0 ≤ partIx c x.part
  place : x.kind = 4 ∨ x.kind = 5 → 0 ≤ placeIx c x.place
theorem play1_calls (x : Sb) (kids : AV) (w : Ws) (c : Ce) (l : List Sp) (hp : preS w c) (hx : SbOk x c) (hl : l.length ≤ 300) (B : Store) (ns n xv : Nm) (hB : B n = none) (hxv : B xv = some (.var (x.cells kids))) :
    ACalls Tryz.prog 51 [.ptr xv 0, .ptr n 0] (wst B n w c none l) ns (SR (play1M x w c l) c B n ns none) := by
  have hnx : ¬ n = xv := fun e => by rw [e, hxv] at hB; cases hB
  have hxn : ¬ xv = n := fun e => hnx e.symm
  have hw := hp.2.wok hp.1
  have ht : TokC n B none l := ⟨(fun m h => by cases h), trivial⟩
  refine acalls_val fun ns _ hns => ?_; refine acalls_of_wpc Tryz.mixed Tryz.dr51 Tryz.func51 rfl (Tryz.fit51 _ rfl) Tryz.en51 (fun hσ => ?_); simp [Tryz.ntmps51]
  have ow := Own.of hσ
  have hx1 : ∀ y, y.under ns = true → ¬ xv = y := fun y hy e => by have := ow.base y hy; rw [← e, hxv] at this; cases this
  have hx2 : ∀ y, y.under ns = true → ¬ y = xv := fun y hy e => hx1 y hy e.symm
  have hk : x.kind = 1 ∨ x.kind = 2 ∨ x.kind = 3 ∨ x.kind = 4 ∨ x.kind = 5 ∨ x.kind = 6 ∨ x.kind = 8 := by have := hx.kind; omega
  rcases hk with hk | hk | hk | hk | hk | hk | hk
  · have hm : stmtM x w c l = stepM (goStep x.arm (x.to x.arm)) w c l := by unfold stmtM; simp [hk]
    have hout : play1M x w c l = andThen (stepM (goStep x.arm (x.to x.arm)) w c l) fun w' l' => if l'.length ≤ 300 then .ok (w', l') else .error 2 := by unfold play1M; rw [hm]
    rw [hout]
    have b1 : (x.kind == 1) = true := by simp [hk]
    simp [gs, hxv, hxn, hnx, ow.nn, ow.n2, hx1, hx2]
    apply cut_
    · intro key
      repeat' apply And.intro
      all_goals
        refine CallK.use (stmts_calls _ _) ?_
        simp [stmtL, b1, gs, hxv, hxn, hnx, ow.nn, ow.n2, hx1, hx2]
        repeat' apply And.intro
        all_goals exact key
    · rw [Store.up_comm _ (ow.nn _ (by simp [Nm.under]))]
      refine (to_sc x kids hx.arm).use (t := none) (w := w) (c := c) (l := l) hw (by simp [hB, ow.nn]) ⟨(fun m h => by cases h), trivial⟩ (by omega) (fun y t' h ht' hs => ?_) (fun k h => ?_)
      rotate_left
      · simp
        exact sc_err (andThen_err h) (StWk.own_up (.refl _) (ow.base _ (by simp [Nm.under])))
      rw [andThen_ok h]
      simp [ow.nn, ow.n2, ht'.ne]
      refine check_use (by decide) (fun h2 => ?_) (fun h2 => ?_) <;> simp
      · exact sc_ok (if_pos (by simp at h2; omega)) ht'.down.1 hns (sub_of (ns := ns) hs (by simp [Nm.under])) (gs_both (StWk.both (StWk.own_up (.refl _) (ow.base _ (by simp [Nm.under]))) (.inl rfl)))
      · exact sc_err (if_neg (by simp at h2; omega)) (StWk.own_gs (StWk.own_up (StWk.own_up (.refl _) (ow.base _ (by simp [Nm.under]))) hB) (fun m hm => (ht'.down.1.fresh m hm).1))
  · have hm : stmtM x w c l = stepM (goStep x.arm (c.home x.arm)) w c l := by unfold stmtM; simp [hk]
    have hout : play1M x w c l = andThen (stepM (goStep x.arm (c.home x.arm)) w c l) fun w' l' => if l'.length ≤ 300 then .ok (w', l') else .error 2 := by unfold play1M; rw [hm]
    rw [hout]
    have b1 : (x.kind == 1) = false := by simp [hk]
    have b2 : (x.kind == 2) = true := by simp [hk]
    simp [gs, hxv, hxn, hnx, ow.nn, ow.n2, hx1, hx2]
    apply cut_
    · intro key
      repeat' apply And.intro
      all_goals
        refine CallK.use (stmts_calls _ _) ?_
        simp [stmtL, b1, b2, gs, hxv, hxn, hnx, ow.nn, ow.n2, hx1, hx2]
        repeat' apply And.intro
        all_goals exact key
    · rw [Store.up_comm _ (ow.nn _ (by simp [Nm.under]))]
      refine (home_sc x kids hx.arm).use (t := none) (w := w) (c := c) (l := l) hw (by simp [hB, ow.nn]) ⟨(fun m h => by cases h), trivial⟩ (by omega) (fun y t' h ht' hs => ?_) (fun k h => ?_)
      rotate_left
      · simp
        exact sc_err (andThen_err h) (StWk.own_up (.refl _) (ow.base _ (by simp [Nm.under])))
      rw [andThen_ok h]
      simp [ow.nn, ow.n2, ht'.ne]
      refine check_use (by decide) (fun h2 => ?_) (fun h2 => ?_) <;> simp
      · exact sc_ok (if_pos (by simp at h2; omega)) ht'.down.1 hns (sub_of (ns := ns) hs (by simp [Nm.under])) (gs_both (StWk.both (StWk.own_up (.refl _) (ow.base _ (by simp [Nm.under]))) (.inl rfl)))
      · exact sc_err (if_neg (by simp at h2; omega)) (StWk.own_gs (StWk.own_up (StWk.own_up (.refl _) (ow.base _ (by simp [Nm.under]))) hB) (fun m hm => (ht'.down.1.fresh m hm).1))
  · have hm : stmtM x w c l = pickM x w c l := by unfold stmtM; simp [hk]
    have hout : play1M x w c l = andThen (pickM x w c l) fun w' l' => if l'.length ≤ 300 then .ok (w', l') else .error 2 := by unfold play1M; rw [hm]
    rw [hout]
    have b1 : (x.kind == 1) = false := by simp [hk]
    have b2 : (x.kind == 2) = false := by simp [hk]
    have b3 : (x.kind == 3) = true := by simp [hk]
    simp [gs, hxv, hxn, hnx, ow.nn, ow.n2, hx1, hx2]
    apply cut_
    · intro key
      repeat' apply And.intro
      all_goals
        refine CallK.use (stmts_calls _ _) ?_
        simp [stmtL, b1, b2, b3, gs, hxv, hxn, hnx, ow.nn, ow.n2, hx1, hx2]
        repeat' apply And.intro
        all_goals exact key
    · rw [Store.up_comm _ (ow.nn _ (by simp [Nm.under]))]
      refine (pick_sc x kids hx.arm).use (t := none) (w := w) (c := c) (l := l) ⟨hp, hx.part hk⟩ (by simp [hB, ow.nn]) ⟨(fun m h => by cases h), trivial⟩ (by omega) (fun y t' h ht' hs => ?_) (fun k h => ?_)
      rotate_left
      · simp
        exact sc_err (andThen_err h) (StWk.own_up (.refl _) (ow.base _ (by simp [Nm.under])))
      rw [andThen_ok h]
      simp [ow.nn, ow.n2, ht'.ne]
      refine check_use (by decide) (fun h2 => ?_) (fun h2 => ?_) <;> simp
      · exact sc_ok (if_pos (by simp at h2; omega)) ht'.down.1 hns (sub_of (ns := ns) hs (by simp [Nm.under])) (gs_both (StWk.both (StWk.own_up (.refl _) (ow.base _ (by simp [Nm.under]))) (.inl rfl)))
      · exact sc_err (if_neg (by simp at h2; omega)) (StWk.own_gs (StWk.own_up (StWk.own_up (.refl _) (ow.base _ (by simp [Nm.under]))) hB) (fun m hm => (ht'.down.1.fresh m hm).1))
  · have hm : stmtM x w c l = putM x w c l := by unfold stmtM; simp [hk]
    have hout : play1M x w c l = andThen (putM x w c l) fun w' l' => if l'.length ≤ 300 then .ok (w', l') else .error 2 := by unfold play1M; rw [hm]
    rw [hout]
    have b1 : (x.kind == 1) = false := by simp [hk]
    have b2 : (x.kind == 2) = false := by simp [hk]
    have b3 : (x.kind == 3) = false := by simp [hk]
    have b4 : (x.kind == 4) = true := by simp [hk]
    simp [gs, hxv, hxn, hnx, ow.nn, ow.n2, hx1, hx2]
    apply cut_
    · intro key
      repeat' apply And.intro
      all_goals
        refine CallK.use (stmts_calls _ _) ?_
        simp [stmtL, b1, b2, b3, b4, gs, hxv, hxn, hnx, ow.nn, ow.n2, hx1, hx2]
        repeat' apply And.intro
        all_goals exact key
    · rw [Store.up_comm _ (ow.nn _ (by simp [Nm.under]))]
      refine (put_sc x kids hx.arm).use (t := none) (w := w) (c := c) (l := l) ⟨hp, hx.place (.inl hk)⟩ (by simp [hB, ow.nn]) ⟨(fun m h => by cases h), trivial⟩ (by omega) (fun y t' h ht' hs => ?_) (fun k h => ?_)
      rotate_left
      · simp
        exact sc_err (andThen_err h) (StWk.own_up (.refl _) (ow.base _ (by simp [Nm.under])))
      rw [andThen_ok h]
      simp [ow.nn, ow.n2, ht'.ne]
      refine check_use (by decide) (fun h2 => ?_) (fun h2 => ?_) <;> simp
      · exact sc_ok (if_pos (by simp at h2; omega)) ht'.down.1 hns (sub_of (ns := ns) hs (by simp [Nm.under])) (gs_both (StWk.both (StWk.own_up (.refl _) (ow.base _ (by simp [Nm.under]))) (.inl rfl)))
      · exact sc_err (if_neg (by simp at h2; omega)) (StWk.own_gs (StWk.own_up (StWk.own_up (.refl _) (ow.base _ (by simp [Nm.under]))) hB) (fun m hm => (ht'.down.1.fresh m hm).1))
  · have hm : stmtM x w c l = putM x w c l := by unfold stmtM; simp [hk]
    have hout : play1M x w c l = andThen (putM x w c l) fun w' l' => if l'.length ≤ 300 then .ok (w', l') else .error 2 := by unfold play1M; rw [hm]
    rw [hout]
    have b1 : (x.kind == 1) = false := by simp [hk]
    have b2 : (x.kind == 2) = false := by simp [hk]
    have b3 : (x.kind == 3) = false := by simp [hk]
    have b4 : (x.kind == 4) = false := by simp [hk]
    have b5 : (x.kind == 5) = true := by simp [hk]
    simp [gs, hxv, hxn, hnx, ow.nn, ow.n2, hx1, hx2]
    apply cut_
    · intro key
      repeat' apply And.intro
      all_goals
        refine CallK.use (stmts_calls _ _) ?_
        simp [stmtL, b1, b2, b3, b4, b5, gs, hxv, hxn, hnx, ow.nn, ow.n2, hx1, hx2]
        repeat' apply And.intro
        all_goals exact key
    · rw [Store.up_comm _ (ow.nn _ (by simp [Nm.under]))]
      refine (put_sc x kids hx.arm).use (t := none) (w := w) (c := c) (l := l) ⟨hp, hx.place (.inr hk)⟩ (by simp [hB, ow.nn]) ⟨(fun m h => by cases h), trivial⟩ (by omega) (fun y t' h ht' hs => ?_) (fun k h => ?_)
      rotate_left
      · simp
        exact sc_err (andThen_err h) (StWk.own_up (.refl _) (ow.base _ (by simp [Nm.under])))
      rw [andThen_ok h]
      simp [ow.nn, ow.n2, ht'.ne]
      refine check_use (by decide) (fun h2 => ?_) (fun h2 => ?_) <;> simp
      · exact sc_ok (if_pos (by simp at h2; omega)) ht'.down.1 hns (sub_of (ns := ns) hs (by simp [Nm.under])) (gs_both (StWk.both (StWk.own_up (.refl _) (ow.base _ (by simp [Nm.under]))) (.inl rfl)))
      · exact sc_err (if_neg (by simp at h2; omega)) (StWk.own_gs (StWk.own_up (StWk.own_up (.refl _) (ow.base _ (by simp [Nm.under]))) hB) (fun m hm => (ht'.down.1.fresh m hm).1))
  · have hm : stmtM x w c l = stepM ⟨5, 0, 0, 0, x.n, j0', j0'⟩ w c l := by unfold stmtM; simp [hk]
    have hout : play1M x w c l = andThen (stepM ⟨5, 0, 0, 0, x.n, j0', j0'⟩ w c l) fun w' l' => if l'.length ≤ 300 then .ok (w', l') else .error 2 := by unfold play1M; rw [hm]
    rw [hout]
    have b1 : (x.kind == 1) = false := by simp [hk]
    have b2 : (x.kind == 2) = false := by simp [hk]
    have b3 : (x.kind == 3) = false := by simp [hk]
    have b4 : (x.kind == 4) = false := by simp [hk]
    have b5 : (x.kind == 5) = false := by simp [hk]
    have b6 : (x.kind == 6) = true := by simp [hk]
    simp [gs, hxv, hxn, hnx, ow.nn, ow.n2, hx1, hx2]
    apply cut_
    · intro key
      repeat' apply And.intro
      all_goals
        refine CallK.use (stmts_calls _ _) ?_
        simp [stmtL, b1, b2, b3, b4, b5, b6, gs, hxv, hxn, hnx, ow.nn, ow.n2, hx1, hx2]
        repeat' apply And.intro
        all_goals exact key
    · rw [Store.up_comm _ (ow.nn _ (by simp [Nm.under]))]
      refine (pause_sc x kids).use (t := none) (w := w) (c := c) (l := l) hw (by simp [hB, ow.nn]) ⟨(fun m h => by cases h), trivial⟩ (by omega) (fun y t' h ht' hs => ?_) (fun k h => ?_)
      rotate_left
      · simp
        exact sc_err (andThen_err h) (StWk.own_up (.refl _) (ow.base _ (by simp [Nm.under])))
      rw [andThen_ok h]
      simp [ow.nn, ow.n2, ht'.ne]
      refine check_use (by decide) (fun h2 => ?_) (fun h2 => ?_) <;> simp
      · exact sc_ok (if_pos (by simp at h2; omega)) ht'.down.1 hns (sub_of (ns := ns) hs (by simp [Nm.under])) (gs_both (StWk.both (StWk.own_up (.refl _) (ow.base _ (by simp [Nm.under]))) (.inl rfl)))
      · exact sc_err (if_neg (by simp at h2; omega)) (StWk.own_gs (StWk.own_up (StWk.own_up (.refl _) (ow.base _ (by simp [Nm.under]))) hB) (fun m hm => (ht'.down.1.fresh m hm).1))
  · have hm : stmtM x w c l = stepM ⟨2, 0, 0, 0, 0, x.to0, x.to1⟩ w c l := by unfold stmtM; simp [hk]
    have hout : play1M x w c l = andThen (stepM ⟨2, 0, 0, 0, 0, x.to0, x.to1⟩ w c l) fun w' l' => if l'.length ≤ 300 then .ok (w', l') else .error 2 := by unfold play1M; rw [hm]
    rw [hout]
    have b1 : (x.kind == 1) = false := by simp [hk]
    have b2 : (x.kind == 2) = false := by simp [hk]
    have b3 : (x.kind == 3) = false := by simp [hk]
    have b4 : (x.kind == 4) = false := by simp [hk]
    have b5 : (x.kind == 5) = false := by simp [hk]
    have b6 : (x.kind == 6) = false := by simp [hk]
    have b8 : (x.kind == 8) = true := by simp [hk]
    simp [gs, hxv, hxn, hnx, ow.nn, ow.n2, hx1, hx2]
    apply cut_
    · intro key
      repeat' apply And.intro
      all_goals
        refine CallK.use (stmts_calls _ _) ?_
        simp [stmtL, b1, b2, b3, b4, b5, b6, b8, gs, hxv, hxn, hnx, ow.nn, ow.n2, hx1, hx2]
        repeat' apply And.intro
        all_goals exact key
    · rw [Store.up_comm _ (ow.nn _ (by simp [Nm.under]))]
      refine (pair_sc x kids).use (t := none) (w := w) (c := c) (l := l) hw (by simp [hB, ow.nn]) ⟨(fun m h => by cases h), trivial⟩ (by omega) (fun y t' h ht' hs => ?_) (fun k h => ?_)
      rotate_left
      · simp
        exact sc_err (andThen_err h) (StWk.own_up (.refl _) (ow.base _ (by simp [Nm.under])))
      rw [andThen_ok h]
      simp [ow.nn, ow.n2, ht'.ne]
      refine check_use (by decide) (fun h2 => ?_) (fun h2 => ?_) <;> simp
      · exact sc_ok (if_pos (by simp at h2; omega)) ht'.down.1 hns (sub_of (ns := ns) hs (by simp [Nm.under])) (gs_both (StWk.both (StWk.own_up (.refl _) (ow.base _ (by simp [Nm.under]))) (.inl rfl)))
      · exact sc_err (if_neg (by simp at h2; omega)) (StWk.own_gs (StWk.own_up (StWk.own_up (.refl _) (ow.base _ (by simp [Nm.under]))) hB) (fun m hm => (ht'.down.1.fresh m hm).1))
end Go.Proofs
