/- Expansion: the walk of playing statements that are no Whens. -/
import Derived.Test.YtnanajdckbfamaaGreatDoorX10
set_option linter.unusedVariables false
set_option linter.unusedSimpArgs false
set_option maxRecDepth 100000
namespace Go.Proofs
open Go Go.Abs
attribute [local irreducible] wpc aSeq awAny endA guardK condK CallK callT aPlan onlyL takeL aeffK takeE loopG bodyA thenA inBlockA planK roundG assignG bodyI endI YieldK unrollG endP
theorem ckE_err0 {b : Bool} {k j : Int} {w : Ws} (h : ckE b j w = .error k) : k = j := (ckE_inv' h).2
theorem doE_err {s : Sp} {w : Ws} {c : Ce} {k : Int} (h : doE s w c = .error k) : 0 < k := by
  have key : ∀ {x : Except Int Ws}, x = .error k → (∀ j, x = .error j → 0 < j) → 0 < k := fun h h' => h' k h
  unfold doE doGo doBoth doTake doLeave doWait at h
  repeat' (first | (injection h with h; omega) | (have := ckE_err0 h; omega) | split at h | (cases h; done))
theorem stepM_errp {s : Sp} {w : Ws} {c : Ce} {l : List Sp} {k : Int} (h : stepM s w c l = .error k) : 0 < k := by
  unfold stepM at h; split at h
  · cases h
  · rename_i j hj; injection h with h; subst h; exact doE_err hj
theorem andThen_errp {x : Out} {f : Ws → List Sp → Out} {k : Int} (h : andThen x f = .error k) (h1 : ∀ j, x = .error j → 0 < j) (h2 : ∀ w l j, f w l = .error j → 0 < j) : 0 < k := by
  unfold andThen at h; split at h
  · exact h2 _ _ _ h
  · rename_i j; injection h with h; subst h; exact h1 _ rfl
theorem stmtM_errp {x : Sb} {w : Ws} {c : Ce} {l : List Sp} {k : Int} (h : stmtM x w c l = .error k) : 0 < k := by
  unfold stmtM at h
  split at h; exact stepM_errp h
  split at h; exact stepM_errp h
  split at h
  · unfold pickM at h
    split at h; (injection h with h; omega)
    split at h; (injection h with h; omega)
    split at h; (injection h with h; omega)
    exact andThen_errp h (fun _ => stepM_errp) (fun _ _ _ => stepM_errp)
  split at h
  · unfold putM at h
    split at h; (injection h with h; omega)
    split at h; (injection h with h; omega)
    split at h; (injection h with h; omega)
    split at h; (injection h with h; omega)
    refine andThen_errp h (fun _ => stepM_errp) fun _ _ _ h => andThen_errp h (fun _ => stepM_errp) fun _ _ _ h => ?_
    split at h; cases h
    split at h; (injection h with h; omega)
    exact andThen_errp h (fun _ => stepM_errp) fun _ _ _ h => andThen_errp h (fun _ => stepM_errp) fun _ _ _ h => stepM_errp h
  split at h; exact stepM_errp h
  exact stepM_errp h
theorem play1M_errp {x : Sb} {w : Ws} {c : Ce} {l : List Sp} {k : Int} (h : play1M x w c l = .error k) : 0 < k :=
  andThen_errp h (fun _ => stmtM_errp) (fun _ _ _ h => by split at h; cases h; injection h with h; omega)
theorem andThen_inv {x : Out} {f : Ws → List Sp → Out} {y : Ws × List Sp} (h : andThen x f = .ok y) : ∃ z, x = .ok z ∧ f z.1 z.2 = .ok y := by
  unfold andThen at h; split at h
  · exact ⟨_, rfl, h⟩
  · cases h
theorem stepM_st {s : Sp} {w : Ws} {c : Ce} {l : List Sp} {y : Ws × List Sp} (hs : StOk w c) (h : stepM s w c l = .ok y) : StOk y.1 c := doE_ok hs (stepM_inv h).1
theorem stmtM_st {x : Sb} {w : Ws} {c : Ce} {l : List Sp} {y : Ws × List Sp} (hs : StOk w c) (h : stmtM x w c l = .ok y) : StOk y.1 c := by
  unfold stmtM at h
  split at h; exact stepM_st hs h
  split at h; exact stepM_st hs h
  split at h
  · unfold pickM at h
    split at h; cases h
    split at h; cases h
    split at h; cases h
    obtain ⟨z, h1, h2⟩ := andThen_inv h
    exact stepM_st (stepM_st hs h1) h2
  split at h
  · unfold putM at h
    split at h; cases h
    split at h; cases h
    split at h; cases h
    split at h; cases h
    obtain ⟨z, h1, h2⟩ := andThen_inv h
    obtain ⟨z2, h3, h4⟩ := andThen_inv h2
    have g := stepM_st (stepM_st hs h1) h3
    split at h4
    · injection h4 with h4; subst h4; exact g
    split at h4; cases h4
    obtain ⟨z3, h5, h6⟩ := andThen_inv h4
    obtain ⟨z4, h7, h8⟩ := andThen_inv h6
    exact stepM_st (stepM_st (stepM_st g h5) h7) h8
  split at h; exact stepM_st hs h
  exact stepM_st hs h
theorem play1M_st {x : Sb} {w : Ws} {c : Ce} {l : List Sp} {y : Ws × List Sp} (hs : StOk w c) (h : play1M x w c l = .ok y) : StOk y.1 c ∧ y.2.length ≤ 300 := by
  obtain ⟨z, h1, h2⟩ := andThen_inv h
  split at h2
  · injection h2 with h2; subst h2; exact ⟨stmtM_st hs h1, by assumption⟩
  · cases h2
theorem StWk.turnW {r n : Nm} {st u : Store} {o o' : AObj} (hfr : ∀ x, x.under r = true → st x = none) (hu : u n = some o') (hw : VarWk o' o) (h : ∀ m, m.under r = false → ¬ m = n → u m = st m) : StWk u (st.up n o) := fun m p hp => by
  rw [Store.up_get] at hp
  split at hp
  · rename_i e; subst e; injection hp with hp; subst hp; exact ⟨_, hu, hw⟩
  · rename_i e
    cases hm : m.under r with
    | true => rw [hfr m hm] at hp; cases hp
    | false => exact ⟨p, by rw [h m hm e]; exact hp, .inl rfl⟩
/-- Statements, one behind the other: the state, the steps; the fault. -/
def playB (c : Ce) : List Sb → Ws → List Sp → (Ws × List Sp) × (Int × Int)
  | [], w, l => ((w, l), (0, 0))
  | x :: xs, w, l => match play1M x w c l with
    | .ok y => playB c xs y.1 y.2
    | .error k => ((w, l), (k, x.at'))
def sbcs (l : List Sb) : List (List AV) := l.map fun x => x.cells (.sl 13 [] .unk)
@[simp] theorem sbcs_length (l : List Sb) : (sbcs l).length = l.length := by simp [sbcs]
def b0 : Sb := ⟨0, 0, ⟨#[]⟩, ⟨#[]⟩, 0, j0', j0', 0⟩
def bat' (l : List Sb) (i : Nat) : Sb := l.getD i b0
theorem sbcs_get {l : List Sb} {i : Nat} (h : i < l.length) : (sbcs l)[i]? = some ((bat' l i).cells (.sl 13 [] .unk)) := by simp [sbcs, bat', h]
theorem drop_get {l : List Sb} {i : Nat} (h : i < l.length) : l.drop i = bat' l i :: l.drop (i + 1) := by
  rw [List.drop_eq_getElem_cons h]; simp [bat', h]
/-- How playing ends. -/
def PlR (r : (Ws × List Sp) × (Int × Int)) (c : Ce) (σ : Store) (n : Nm) : AEnd → Store → Prop := fun e σ' =>
  e = .ret (.agg [.int .i64 r.2.1, .int .i64 r.2.2]) ∧ σ' = σ.up n (.var (wkC r.1.1 c (.sl 11 (spcs r.1.2) .unk)))
set_option maxHeartbeats 4000000 in
theorem playB_calls (c : Ce) (xs : List Sb) (w0 : Ws) (l0 : List Sp) (hxs : ∀ x ∈ xs, SbOk x c) (hlen : xs.length ≤ 1000000) (hp : preS w0 c) (hl0 : l0.length ≤ 300) (σ : Store) (ns n gl : Nm) (go : Obj) (hgo : errGlob go) (hg : σ gl = some (.glob 0 go)) (hn : σ n = some (.var (wkC w0 c (.sl 11 (spcs l0) .unk)))) :
    ACalls Tryz.prog 27 [.ptr n 0, .sl 13 (sbcs xs) .unk] σ ns (PlR (playB c xs w0 l0) c σ n) := by
  have hgn : ¬ gl = n := fun e => by rw [e, hn] at hg; cases hg
  refine acalls_val fun ns _ hns => ?_; refine acalls_of_wpc Tryz.mixed Tryz.dr27 Tryz.func27 rfl (Tryz.fit27 _ rfl) Tryz.en27 (fun hσ => ?_); simp [Tryz.ntmps27]
  have hnn := ne_own hσ hn
  have hn2 := own_ne hσ hn
  have hgg := ne_own hσ hg
  have hg2 := own_ne hσ hg
  refine wpc_loopV (fun a : Nat × Ws × List Sp => [(6, .any), (7, .any), (8, .any), (9, .any), (12, .any), (13, .any), (14, .any), (15, .any), (16, .any), (17, .any), (18, .any), (19, .any), (20, .any), (21, .any), (22, .any), (23, .any), (24, .any), (25, .any), (26, .any), (27, .any), (28, .any), (29, .any), (30, .any), (31, .any), (32, .any), (33, .any), (34, .any), (35, .any), (36, .any), (37, .any), (38, .any), (39, .any), (40, .any), (41, .any), (42, .any), (43, .any), (44, .any), (45, .any), (46, .any), (47, .any), (48, .any), (49, .any), (50, .any), (51, .any), (52, .any), (53, .any), (54, .any), (55, .any), (56, .any), (57, .any), (58, .any), (59, .any), (60, .any), (61, .any), (62, .any), (63, .any),  (12, .int .i64 a.1)]) n (fun a => wkC a.2.1 c (.sl 11 (spcs a.2.2) .unk)) (fun a => xs.length - a.1) (fun a => a.1 ≤ xs.length ∧ preS a.2.1 c ∧ a.2.2.length ≤ 300 ∧ playB c (xs.drop a.1) a.2.1 a.2.2 = playB c xs w0 l0) (0, w0, l0) ⟨by simp, hp, hl0, by simp⟩ ?_ (by simp [hn, hnn, hn2]) ?_
  · simp
    (repeat' first | exact AVsle.nil | refine AVsle.cons (AVle.any _) ?_ | refine AVsle.cons (AVle.refl _) ?_ | refine AVsle.cons AVLe.le ?_)
  rintro ⟨i, w, l⟩ r ⟨hi, hpw, hl, hrun⟩ hfr
  dsimp only at hi hpw hl hrun
  simp
  refine condK_cases (fun h => ?_) (fun h => ?_) <;> simp [h] <;> (try simp at h)
  · have hgx := sbcs_get h
    rw [drop_get h] at hrun
    have hx := hxs (bat' xs i) (by simp [bat', h])
    generalize bat' xs i = x at *
    have k7 : (x.kind == 7) = false := by have := hx.kind; simp; omega
    have w1 : IntKind.wrap .i64 ((i : Int) + 1) = ((i + 1 : Nat) : Int) := wrap64 (by omega) (by omega)
    simp [hgx, k7, hnn, hn2]
    first | refine Pure.use_le (clip_pure (spcs l)) ?_ | refine callT_le (clip_pure (spcs l)) ?_
    simp [hnn, hn2]
    cases hpl : play1M x w c l with
    | error k =>
      have hk := play1M_errp hpl
      refine CallK.of (R := fun e σ' => e = .ret (.int .i64 k) ∧ σ' = ((σ.up ((ns.sub 0).sub 0) (.var [.int .i64 0, .int .i64 0])).up n (.var (wkC w c (.sl 11 (spcs l) .unk)))).up ((((ns.sub 2).sub r).sub 1).sub 2) (.var (x.cells (.sl 13 [] .unk))))
        (told_calls (gl := gl) hgo (by simp [hg, hgg, hgn]) ((play1_calls x (.sl 13 [] .unk) w c l hpw hx hl _ _ _ _ (by simp [hσ, hnn, hn2]) (by simp)).mono ?_)) ?_ ?_
      · rintro e σ' hs
        rw [hpl] at hs
        obtain ⟨rfl, rfl⟩ := hs
        exact .inr ⟨k, rfl, by simp [hg, hgg, hgn], rfl, rfl⟩
      · rintro v σ' ⟨hv, rfl⟩
        injection hv with hv; subst hv
        have hk0 : (k != 0) = true := by simp; omega
        simp [hk0, hnn, hn2]
        have hr2 : playB c xs w0 l0 = ((w, l), (k, x.at')) := by rw [← hrun]; simp [playB, hpl]
        rw [hr2]
        refine endA_gen (.refl _) (StWk.weak (v := σ.up n (.var (wkC w c (.sl 11 (spcs l) .unk)))) ?_) ⟨rfl, rfl⟩
        refine StWk.own_up (StWk.own_up (StWk.both (StWk.own_up (.refl _) (hσ _ (by simp [Nm.under]))) (.inl rfl)) ?_) ?_
        · simp [hσ, hnn, hn2]
        · simp [hσ, hnn, hn2]
      · rintro v σ' ⟨h1, _⟩; cases h1
    | ok y =>
      obtain ⟨hst, hl2⟩ := play1M_st hpw.1 hpl
      refine CallK.of (R := fun e σ' => ∃ t', (∀ m, t' = some m → (none : Option Nm) = some m ∨ m.under (((((ns.sub 2).sub r).sub 5).sub 1).sub 0) = true) ∧ TokC ((((ns.sub 2).sub r).sub 3).sub 3) (((σ.up ((ns.sub 0).sub 0) (.var [.int .i64 0, .int .i64 0])).up n (.var (wkC w c (.sl 11 (spcs l) .unk)))).up ((((ns.sub 2).sub r).sub 1).sub 2) (.var (x.cells (.sl 13 [] .unk)))) t' y.2 ∧ e = .ret (.int .i64 0) ∧ σ' = wst (((σ.up ((ns.sub 0).sub 0) (.var [.int .i64 0, .int .i64 0])).up n (.var (wkC w c (.sl 11 (spcs l) .unk)))).up ((((ns.sub 2).sub r).sub 1).sub 2) (.var (x.cells (.sl 13 [] .unk)))) ((((ns.sub 2).sub r).sub 3).sub 3) y.1 c t' y.2)
        (told_calls (gl := gl) hgo (by simp [hg, hgg, hgn]) ((play1_calls x (.sl 13 [] .unk) w c l hpw hx hl _ _ _ _ (by simp [hσ, hnn, hn2]) (by simp)).mono ?_)) ?_ ?_
      · rintro e σ' hs
        rw [hpl] at hs
        obtain ⟨t', g1, g2, rfl, rfl⟩ := hs
        exact .inl ⟨rfl, t', g2, g1, rfl, rfl⟩
      · rintro v σ' ⟨t', g2, g1, hv, rfl⟩
        injection hv with hv; subst hv
        have hx1 : ¬ t' = some ((((ns.sub 2).sub r).sub 1).sub 2) := g1.down.2
        have hxn : ¬ t' = some n := g1.down.1.down.2
        have hx0 : ¬ t' = some ((ns.sub 0).sub 0) := g1.down.1.down.1.down.2
        have hxy := g1.ne
        simp [hnn, hn2, hx1, hxn, hx0, hxy, w1]
        refine loopG_normal (i + 1, y.1, y.2) ⟨by simp only; omega, ⟨hst, hpw.2⟩, hl2, ?_⟩ (by simp only; omega) ?_ ?_ rfl rfl
        · rw [← hrun]; simp [playB, hpl]
        · simp
          (repeat' first | exact AVsle.nil | refine AVsle.cons (AVle.any _) ?_ | refine AVsle.cons (AVle.refl _) ?_ | refine AVsle.cons AVLe.le ?_)
        · refine StWk.weak (StWk.turnW hfr (Store.up_same ..) (.inr ⟨_, _, rfl, rfl, ?_⟩) (fun m m1 m2 => ?_))
          · (repeat' first | exact AVsle.nil | refine AVsle.cons (AVle.any _) ?_ | refine AVsle.cons (AVle.refl _) ?_ | refine AVsle.cons AVLe.le ?_)
          · have hm : ¬ t' = some m := fun e => by
              rcases g2 m e with h | h
              · cases h
              · rw [Nm.under_trans h (by simp [Nm.under])] at m1; cases m1
            rw [Store.up_get, if_neg m2]
            unfold wst
            rw [gs_get hm, up_other (ns := (ns.sub 2).sub r) (by simp [Nm.under]) m1, up_other (ns := (ns.sub 2).sub r) (by simp [Nm.under]) m1, Store.up_get, if_neg m2]
      · rintro v σ' ⟨_, _, _, h1, _⟩; cases h1
  · obtain rfl : i = xs.length := by omega
    simp [hnn, hn2]
    have hr2 : playB c xs w0 l0 = ((w, l), (0, 0)) := by rw [← hrun]; simp [playB]
    rw [hr2]
    refine endA_gen (.refl _) (StWk.weak (v := σ.up n (.var (wkC w c (.sl 11 (spcs l) .unk)))) ?_) ⟨rfl, rfl⟩
    exact StWk.own_up (StWk.both (StWk.own_up (.refl _) (hσ _ (by simp [Nm.under]))) (.inl rfl)) (by simp [hσ, hnn, hn2])
end Go.Proofs
