/- Expansion: the walk of playing statements. -/
import Derived.Test.YtnanajdckbfamaaGreatDoorX11
import Derived.Test.YtnanajdckbfamaaGreatDoorX4
set_option linter.unusedVariables false
set_option linter.unusedSimpArgs false
set_option maxRecDepth 100000
namespace Go.Proofs
open Go Go.Abs
attribute [local irreducible] wpc aSeq awAny endA guardK condK CallK callT aPlan onlyL takeL aeffK takeE loopG bodyA thenA inBlockA planK roundG assignG bodyI endI YieldK unrollG endP
abbrev Sm := Sb × List Sb
def smcs (l : List Sm) : List (List AV) := l.map fun x => x.1.cells (.sl 13 (sbcs x.2) .unk)
@[simp] theorem smcs_length (l : List Sm) : (smcs l).length = l.length := by simp [smcs]
def smat (l : List Sm) (i : Nat) : Sm := l.getD i (b0, [])
theorem smcs_get {l : List Sm} {i : Nat} (h : i < l.length) : (smcs l)[i]? = some ((smat l i).1.cells (.sl 13 (sbcs (smat l i).2) .unk)) := by simp [smcs, smat, h]
theorem dropm_get {l : List Sm} {i : Nat} (h : i < l.length) : l.drop i = smat l i :: l.drop (i + 1) := by
  rw [List.drop_eq_getElem_cons h]; simp [smat, h]
theorem playB_st {c : Ce} : ∀ {xs : List Sb} {w : Ws} {l : List Sp}, StOk w c → l.length ≤ 300 → StOk (playB c xs w l).1.1 c ∧ (playB c xs w l).1.2.length ≤ 300
  | [], w, l, h, hl => ⟨h, hl⟩
  | x :: xs, w, l, h, hl => by
    unfold playB
    split
    · rename_i y hy
      obtain ⟨g1, g2⟩ := play1M_st h hy
      exact playB_st g1 g2
    · exact ⟨h, hl⟩
/-- Statements, the Whens with their kids. -/
def playT (c : Ce) : List Sm → Ws → List Sp → (Ws × List Sp) × (Int × Int)
  | [], w, l => ((w, l), (0, 0))
  | x :: xs, w, l => if x.1.kind = 7 then
      if iat w.wher (partIx c x.1.part).toNat = placeIx c x.1.place then
        if (playB c x.2 w l).2.1 = 0 then playT c xs (playB c x.2 w l).1.1 (playB c x.2 w l).1.2 else playB c x.2 w l
      else playT c xs w l
    else match play1M x.1 w c l with
      | .ok y => playT c xs y.1 y.2
      | .error k => ((w, l), (k, x.1.at'))
structure SmOk (x : Sm) (c : Ce) : Prop where
  flat : x.1.kind ≠ 7 → SbOk x.1 c
  part : x.1.kind = 7 → 0 ≤ partIx c x.1.part
  kids : x.1.kind = 7 → ∀ k ∈ x.2, SbOk k c
  len : x.2.length ≤ 1000000
set_option maxHeartbeats 4000000 in
theorem playT_calls (c : Ce) (xs : List Sm) (w0 : Ws) (l0 : List Sp) (hxs : ∀ x ∈ xs, SmOk x c) (hlen : xs.length ≤ 1000000) (hp : preS w0 c) (hl0 : l0.length ≤ 300) (σ : Store) (ns n gl : Nm) (go : Obj) (hgo : errGlob go) (hg : σ gl = some (.glob 0 go)) (hn : σ n = some (.var (wkC w0 c (.sl 11 (spcs l0) .unk)))) :
    ACalls Tryz.prog 27 [.ptr n 0, .sl 13 (smcs xs) .unk] σ ns (PlR (playT c xs w0 l0) c σ n) := by
  have hgn : ¬ gl = n := fun e => by rw [e, hn] at hg; cases hg
  refine acalls_val fun ns _ hns => ?_; refine acalls_of_wpc Tryz.mixed Tryz.dr27 Tryz.func27 rfl (Tryz.fit27 _ rfl) Tryz.en27 (fun hσ => ?_); simp [Tryz.ntmps27]
  have hnn := ne_own hσ hn
  have hn2 := own_ne hσ hn
  have hgg := ne_own hσ hg
  have hg2 := own_ne hσ hg
  refine wpc_loopV (fun a : Nat × Ws × List Sp => [(6, .any), (7, .any), (8, .any), (9, .any), (12, .any), (13, .any), (14, .any), (15, .any), (16, .any), (17, .any), (18, .any), (19, .any), (20, .any), (21, .any), (22, .any), (23, .any), (24, .any), (25, .any), (26, .any), (27, .any), (28, .any), (29, .any), (30, .any), (31, .any), (32, .any), (33, .any), (34, .any), (35, .any), (36, .any), (37, .any), (38, .any), (39, .any), (40, .any), (41, .any), (42, .any), (43, .any), (44, .any), (45, .any), (46, .any), (47, .any), (48, .any), (49, .any), (50, .any), (51, .any), (52, .any), (53, .any), (54, .any), (55, .any), (56, .any), (57, .any), (58, .any), (59, .any), (60, .any), (61, .any), (62, .any), (63, .any),  (12, .int .i64 a.1)]) n (fun a => wkC a.2.1 c (.sl 11 (spcs a.2.2) .unk)) (fun a => xs.length - a.1) (fun a => a.1 ≤ xs.length ∧ preS a.2.1 c ∧ a.2.2.length ≤ 300 ∧ playT c (xs.drop a.1) a.2.1 a.2.2 = playT c xs w0 l0) (0, w0, l0) ⟨by simp, hp, hl0, by simp⟩ ?_ (by simp [hn, hnn, hn2]) ?_
  · simp
    (repeat' first | exact AVsle.nil | refine AVsle.cons (AVle.any _) ?_ | refine AVsle.cons (AVle.refl _) ?_ | refine AVsle.cons AVLe.le ?_)
  rintro ⟨i, w, l⟩ r ⟨hi, hpw, hl, hrun⟩ hfr
  dsimp only at hi hpw hl hrun
  have hpw' := hpw
  simp
  refine condK_cases (fun h => ?_) (fun h => ?_) <;> simp [h] <;> (try simp at h)
  · have hgx := smcs_get h
    rw [dropm_get h] at hrun
    have hxm := hxs (smat xs i) (by simp [smat, h])
    generalize smat xs i = xm at *
    obtain ⟨x, ks⟩ := xm
    by_cases hk7 : x.kind = 7
    · have k7 : (x.kind == 7) = true := by simp [hk7]
      have hpi := hxm.part hk7
      have hpw : (partIx c x.part).toNat < w.wher.length := by rw [hpw.1.len]; exact partIx_lt hpi
      have hgp := ics_get hpw
      have hpl : c.parts.length ≤ 1000000 := by have := hpw'.2.parts8; omega
      have hcl : c.places.length ≤ 1000000 := by have := hpw'.2.places16; omega
      have w1 : IntKind.wrap .i64 ((i : Int) + 1) = ((i + 1 : Nat) : Int) := wrap64 (by omega) (by omega)
      generalize hP : partIx c x.part = P at *
      obtain ⟨p, rfl⟩ := Int.eq_ofNat_of_zero_le hpi
      simp only [Int.toNat_natCast] at hgp hpw
      simp [hgx, k7, hnn, hn2]
      apply cut_
      · intro key
        repeat' first
          | apply And.intro
          | (refine CallK.use (part_calls w c (.sl 11 (spcs l) .unk) x.part hpl _ _ n (by simp [hnn, hn2])) ?_; simp [hnn, hn2, hP, hgp])
          | (refine CallK.use (place_calls w c (.sl 11 (spcs l) .unk) x.place hcl _ _ n (by simp [hnn, hn2])) ?_; simp [hnn, hn2, hP, hgp])
          | exact key
      have hst := playB_st (xs := ks) hpw'.1 hl
      have hrun' : playT c ((x, ks) :: List.drop (i + 1) xs) w l = if iat w.wher p = placeIx c x.place then (if (playB c ks w l).2.1 = 0 then playT c (List.drop (i + 1) xs) (playB c ks w l).1.1 (playB c ks w l).1.2 else playB c ks w l) else playT c (List.drop (i + 1) xs) w l := by
        rw [playT]; simp only [hk7, if_true, hP, Int.toNat_natCast]
      rw [hrun'] at hrun
      refine condK_cases (fun g => ?_) (fun g => ?_) <;> simp [g, w1]
      · have g' : ¬ iat w.wher p = placeIx c x.place := by simpa using g
        rw [if_neg g'] at hrun
        refine loopG_normal (i + 1, w, l) ⟨by simp only; omega, hpw', hl, hrun⟩ (by simp only; omega) ?_ ?_ rfl rfl
        · simp
          (repeat' first | exact AVsle.nil | refine AVsle.cons (AVle.any _) ?_ | refine AVsle.cons (AVle.refl _) ?_ | refine AVsle.cons AVLe.le ?_)
        · refine StWk.weak (StWk.turn hfr (by simp [hnn, hn2]) (fun m m1 m2 => ?_))
          rw [up_other (ns := (ns.sub 2).sub r) (by simp [Nm.under]) m1, Store.up_get, if_neg m2]
      · have g' : iat w.wher p = placeIx c x.place := by simpa using g
        rw [if_pos g'] at hrun
        refine CallK.use (playB_calls c ks w l (hxm.kids hk7) hxm.len hpw' hl _ _ n gl go hgo (by simp [hg, hgg, hgn]) (by simp [hnn, hn2])) ?_
        generalize playB c ks w l = rr at *
        simp [hnn, hn2]
        by_cases h0 : rr.2.1 = 0
        · rw [if_pos h0] at hrun
          simp [h0, w1]
          refine loopG_normal (i + 1, rr.1.1, rr.1.2) ⟨by simp only; omega, ⟨hst.1, hpw'.2⟩, hst.2, hrun⟩ (by simp only; omega) ?_ ?_ rfl rfl
          · simp
            (repeat' first | exact AVsle.nil | refine AVsle.cons (AVle.any _) ?_ | refine AVsle.cons (AVle.refl _) ?_ | refine AVsle.cons AVLe.le ?_)
          · refine StWk.weak (StWk.turn hfr (by simp [hnn, hn2]) (fun m m1 m2 => ?_))
            rw [up_other (ns := (ns.sub 2).sub r) (by simp [Nm.under]) m1, Store.up_get, if_neg m2, up_other (ns := (ns.sub 2).sub r) (by simp [Nm.under]) m1, Store.up_get, if_neg m2]
        · rw [if_neg h0] at hrun
          simp [bne_t h0, hnn, hn2]
          rw [← hrun]
          refine endA_gen (.refl _) (StWk.weak (v := σ.up n (.var (wkC rr.1.1 c (.sl 11 (spcs rr.1.2) .unk)))) ?_) ⟨rfl, rfl⟩
          exact StWk.turn hσ (by simp [hnn, hn2]) (fun m m1 m2 => by repeat' first | rfl | rw [up_other (ns := ns) (by simp [Nm.under]) m1] | rw [Store.up_get, if_neg m2])
    have hx := hxm.flat hk7
    have k7 : (x.kind == 7) = false := by simp [hk7]
    have hk7' : ¬ x.kind = 7 := hk7
    have w1 : IntKind.wrap .i64 ((i : Int) + 1) = ((i + 1 : Nat) : Int) := wrap64 (by omega) (by omega)
    simp [hgx, k7, hnn, hn2]
    first | refine Pure.use_le (clip_pure (spcs l)) ?_ | refine callT_le (clip_pure (spcs l)) ?_
    simp [hnn, hn2]
    cases hpl : play1M x w c l with
    | error k =>
      have hk := play1M_errp hpl
      refine CallK.of (R := fun e σ' => e = .ret (.int .i64 k) ∧ σ' = ((σ.up ((ns.sub 0).sub 0) (.var [.int .i64 0, .int .i64 0])).up n (.var (wkC w c (.sl 11 (spcs l) .unk)))).up ((((ns.sub 2).sub r).sub 1).sub 2) (.var (x.cells (.sl 13 (sbcs ks) .unk))))
        (told_calls (gl := gl) hgo (by simp [hg, hgg, hgn]) ((play1_calls x (.sl 13 (sbcs ks) .unk) w c l hpw hx hl _ _ _ _ (by simp [hσ, hnn, hn2]) (by simp)).mono ?_)) ?_ ?_
      · rintro e σ' hs
        rw [hpl] at hs
        obtain ⟨rfl, rfl⟩ := hs
        exact .inr ⟨k, rfl, by simp [hg, hgg, hgn], rfl, rfl⟩
      · rintro v σ' ⟨hv, rfl⟩
        injection hv with hv; subst hv
        have hk0 : (k != 0) = true := by simp; omega
        simp [hk0, hnn, hn2]
        have hr2 : playT c xs w0 l0 = ((w, l), (k, x.at')) := by rw [← hrun]; simp [playT, hk7', hpl]
        rw [hr2]
        refine endA_gen (.refl _) (StWk.weak (v := σ.up n (.var (wkC w c (.sl 11 (spcs l) .unk)))) ?_) ⟨rfl, rfl⟩
        refine StWk.own_up (StWk.own_up (StWk.both (StWk.own_up (.refl _) (hσ _ (by simp [Nm.under]))) (.inl rfl)) ?_) ?_
        · simp [hσ, hnn, hn2]
        · simp [hσ, hnn, hn2]
      · rintro v σ' ⟨h1, _⟩; cases h1
    | ok y =>
      obtain ⟨hst, hl2⟩ := play1M_st hpw.1 hpl
      refine CallK.of (R := fun e σ' => ∃ t', (∀ m, t' = some m → (none : Option Nm) = some m ∨ m.under (((((ns.sub 2).sub r).sub 5).sub 1).sub 0) = true) ∧ TokC ((((ns.sub 2).sub r).sub 3).sub 3) (((σ.up ((ns.sub 0).sub 0) (.var [.int .i64 0, .int .i64 0])).up n (.var (wkC w c (.sl 11 (spcs l) .unk)))).up ((((ns.sub 2).sub r).sub 1).sub 2) (.var (x.cells (.sl 13 (sbcs ks) .unk)))) t' y.2 ∧ e = .ret (.int .i64 0) ∧ σ' = wst (((σ.up ((ns.sub 0).sub 0) (.var [.int .i64 0, .int .i64 0])).up n (.var (wkC w c (.sl 11 (spcs l) .unk)))).up ((((ns.sub 2).sub r).sub 1).sub 2) (.var (x.cells (.sl 13 (sbcs ks) .unk)))) ((((ns.sub 2).sub r).sub 3).sub 3) y.1 c t' y.2)
        (told_calls (gl := gl) hgo (by simp [hg, hgg, hgn]) ((play1_calls x (.sl 13 (sbcs ks) .unk) w c l hpw hx hl _ _ _ _ (by simp [hσ, hnn, hn2]) (by simp)).mono ?_)) ?_ ?_
      · rintro e σ' hs
        rw [hpl] at hs
        obtain ⟨t', g1, g2, rfl, rfl⟩ := hs
        exact .inl ⟨rfl, t', g2, g1, rfl, rfl⟩
      · rintro v σ' ⟨t', g2, g1, hv, rfl⟩
        injection hv with hv; subst hv
        have hx1 : ¬ t' = some ((((ns.sub 2).sub r).sub 1).sub 2) := g1.down.2
        have hxn : ¬ t' = some n := g1.down.1.down.2
        have hx0 : ¬ t' = some ((ns.sub 0).sub 0) := g1.down.1.down.1.down.2
        have hxy := g1.ne
        simp [hnn, hn2, hx1, hxn, hx0, hxy, w1]
        refine loopG_normal (i + 1, y.1, y.2) ⟨by simp only; omega, ⟨hst, hpw.2⟩, hl2, ?_⟩ (by simp only; omega) ?_ ?_ rfl rfl
        · rw [← hrun]; simp [playT, hk7', hpl]
        · simp
          (repeat' first | exact AVsle.nil | refine AVsle.cons (AVle.any _) ?_ | refine AVsle.cons (AVle.refl _) ?_ | refine AVsle.cons AVLe.le ?_)
        · refine StWk.weak (StWk.turnW hfr (Store.up_same ..) (.inr ⟨_, _, rfl, rfl, ?_⟩) (fun m m1 m2 => ?_))
          · (repeat' first | exact AVsle.nil | refine AVsle.cons (AVle.any _) ?_ | refine AVsle.cons (AVle.refl _) ?_ | refine AVsle.cons AVLe.le ?_)
          · have hm : ¬ t' = some m := fun e => by
              rcases g2 m e with h | h
              · cases h
              · rw [Nm.under_trans h (by simp [Nm.under])] at m1; cases m1
            rw [Store.up_get, if_neg m2]
            unfold wst
            rw [gs_get hm, up_other (ns := (ns.sub 2).sub r) (by simp [Nm.under]) m1, up_other (ns := (ns.sub 2).sub r) (by simp [Nm.under]) m1, Store.up_get, if_neg m2]
      · rintro v σ' ⟨_, _, _, h1, _⟩; cases h1
  · obtain rfl : i = xs.length := by omega
    simp [hnn, hn2]
    have hr2 : playT c xs w0 l0 = ((w, l), (0, 0)) := by rw [← hrun]; simp [playT]
    rw [hr2]
    refine endA_gen (.refl _) (StWk.weak (v := σ.up n (.var (wkC w c (.sl 11 (spcs l) .unk)))) ?_) ⟨rfl, rfl⟩
    exact StWk.own_up (StWk.both (StWk.own_up (.refl _) (hσ _ (by simp [Nm.under]))) (.inl rfl)) (by simp [hσ, hnn, hn2])
theorem Evo.wkl {NS : Nm → Prop} {ρ ρ' : Names} {M M' : Mem} {σ σ' τ : Store} {w w' : World} (h : Evo NS ρ M σ' w ρ' M' τ w') (hs : ∀ n, (σ' n).isSome = true → (σ n).isSome = true) : Evo NS ρ M σ w ρ' M' τ w' := by
  have ow : ∀ {b}, Owned ρ σ' b → Owned ρ σ b := fun ⟨n, p, a, b, c⟩ => ⟨n, p, hs n a, b, c⟩
  exact ⟨h.grows, h.size, h.os, h.tape, h.output, fun b hb hn => h.keep b hb (fun ho => hn (ow ho)), fun b hb => (h.own b hb).imp id ow, fun a ha => (h.memNew a ha).imp id (Or.imp id ow), h.names, fun n hn => (h.dom n hn).imp (hs n) id⟩
/-- A call from a store of which more is known. -/
theorem _root_.Go.Abs.ACalls.wkSt {f : FuncId} {args : List AV} {σ σ' : Store} {ns : Nm} {R : AEnd → Store → Prop} (h : ACalls Tryz.prog f args σ' ns R) (hw : StWk σ σ') : ACalls Tryz.prog f args σ ns R :=
  ⟨h.1, fun ρ M w xs hr hf hv => by
    obtain ⟨hr', hs⟩ := hw.rel hr
    exact (h.2 ρ M w xs hr' hf hv).mono fun e w' ⟨ae, σ'', ρ', M', a, b, c, d⟩ => ⟨ae, σ'', ρ', M', a, b, c, Evo.wkl d hs⟩⟩
/-- A function that leaves the store as it is, where the cell that errors.As reads lies there. -/
def PureG (f : FuncId) (args : List AV) (v : AV) : Prop := ∀ (σ : Store) (ns gl : Nm) (go : Obj), errGlob go → σ gl = some (.glob 0 go) → ACalls Tryz.prog f args σ ns fun e σ' => e = .ret v ∧ σ' = σ
theorem PureG.weaken {f : FuncId} {args args' : List AV} {v : AV} (h : PureG f args' v) (hl : AVsle args args') : PureG f args v := fun σ ns gl go hgo hg => (h σ ns gl go hgo hg).weaken hl
theorem pureG_val {f : FuncId} {args : List AV} {v : AV} (h : ∀ (σ : Store) (ns gl : Nm) (go : Obj) [ByVal ns], errGlob go → σ gl = some (.glob 0 go) → ACalls Tryz.prog f args σ ns fun e σ' => e = .ret v ∧ σ' = σ) : PureG f args v :=
  fun σ ns gl go hgo hg => acalls_val fun ns' _ _ => h σ ns' gl go hgo hg
theorem PureG.use {f : FuncId} {args : List AV} {v : AV} (h : PureG f args v) {gl : Nm} {go : Obj} (hgo : errGlob go) {n : Nm} {dst : Option Tmp} {K : AS → Prop} {Q : AExit → AS → Prop} {s : AS} (hg : s.st gl = some (.glob 0 go)) (hk : K (s.put dst v)) : CallK Tryz.prog f args n dst K Q s :=
  CallK.use (h s.st n gl go hgo hg) hk
theorem PureG.use_le {f : FuncId} {args args' : List AV} {v : AV} (h : PureG f args' v) {gl : Nm} {go : Obj} (hgo : errGlob go) {n : Nm} {dst : Option Tmp} {K : AS → Prop} {Q : AExit → AS → Prop} {s : AS} [hl : AVsLe args args'] (hg : s.st gl = some (.glob 0 go)) (hk : K (s.put dst v)) : CallK Tryz.prog f args n dst K Q s :=
  (h.weaken hl.le).use hgo hg hk
theorem steps_pureG (c : Ce) (xs : List Sm) (w : Ws) (hxs : ∀ x ∈ xs, SmOk x c) (hlen : xs.length ≤ 1000000) (hp : preS w c) : PureG 12 [c.av, .sl 13 (smcs xs) .unk, w.av] (.tup [.sl 11 (spcs (playT c xs w []).1.2) .unk, .agg [.int .i64 (playT c xs w []).2.1, .int .i64 (playT c xs w []).2.2]]) := by
  refine pureG_val fun σ ns gl go _ hgo hg => ?_
  refine acalls_of_wpc Tryz.mixed Tryz.dr12 Tryz.func12 rfl (Tryz.fit12 _ rfl) Tryz.en12 (fun hσ => ?_); simp [Tryz.ntmps12]
  have hgg := ne_own hσ hg
  have hg2 := own_ne hσ hg
  have hc := playT_calls c xs w [] hxs hlen hp (by simp)
  generalize playT c xs w [] = r at *
  refine CallK.use ((hc _ _ ((ns.sub 1).sub 3) gl go hgo (by simp [hg, hgg, hg2]) (Store.up_same ..)).wkSt (StWk.both (.refl _) (.inr ⟨_, _, rfl, rfl, ?_⟩))) ?_
  · show AVsle _ (wkC w c (.sl 11 [] .unk))
    (repeat' first | exact AVsle.nil | refine AVsle.cons (AVle.any _) ?_ | refine AVsle.cons (AVle.refl _) ?_ | refine AVsle.cons AVLe.le ?_)
  simp
  exact endA_eq rfl (by simp)
theorem apply1_calls (s : Sp) (w : Ws) (c : Ce) (o : AV) (hw : WOk w c) (σ : Store) (ns n a b : Nm) (hn : σ n = some (.var (wkC w c o))) (ha : σ a = some (.var [.ptr n 0])) (hb : σ b = some (.var s.cells)) :
    ACalls Tryz.prog 33 [.ptr a 0, .ptr b 0] σ ns (DoR (doE s w c) c o σ n) := by
  refine acalls_val fun ns _ hns => ?_; refine acalls_of_wpc Tryz.mixed Tryz.dr33 Tryz.func33 rfl (Tryz.fit33 _ rfl) Tryz.en33 (fun hσ => ?_); simp [Tryz.ntmps33]
  simp [ha, hb]
  refine (do_do s).use (w := w) (c := c) (o := o) hw (by simp [hn]) (fun w' h => ?_) (fun k h => ?_)
  · simp
    exact doc_ok h (.refl _)
  · simp
    exact doc_err h (by simp)
theorem apply_pureG (c : Ce) (w : Ws) (s : Sp) (hw : WOk w c) : PureG 20 [c.av, w.av, s.av] (refAV (refR w (doE s w c))) := by
  refine pureG_val fun σ ns gl go _ hgo hg => ?_
  refine acalls_of_wpc Tryz.mixed Tryz.dr20 Tryz.func20 rfl (Tryz.fit20 _ rfl) Tryz.en20 (fun hσ => ?_); simp [Tryz.ntmps20]
  have hgg := ne_own hσ hg
  have hg2 := own_ne hσ hg
  have hc := fun (τ : Store) (ns n a b : Nm) (hn : τ n = some (.var (wkC w c (.sl 0 [] .nil)))) (ha : τ a = some (.var [.ptr n 0])) (hb : τ b = some (.var s.cells)) => apply1_calls s w c (.sl 0 [] .nil) hw τ ns n a b hn ha hb
  refine told_use (gl := gl) hgo (by simp [hg, hgg, hg2]) ((hc _ _ ((ns.sub 1).sub 3) _ _ (by simp) (by simp) (by simp)).mono fun e σ' hs => ?_)
  unfold DoR at hs
  cases hd : doE s w c with
  | error k =>
    have hk := doE_err hd
    have hk0 : (k != 0) = true := by simp; omega
    rw [hd] at hs
    obtain ⟨rfl, rfl⟩ := hs
    refine .inr ⟨k, rfl, rfl, ?_⟩
    simp [hk0, hgg, hg2]
    exact endA_eq (by rw [refR_err rfl]) (by simp)
  | ok w' =>
    rw [hd] at hs
    obtain ⟨rfl, rfl⟩ := hs
    refine .inl ⟨rfl, ?_⟩
    simp [hgg, hg2]
    exact endA_eq (by rw [refR_ok rfl]) (by simp)
theorem equal_pure (a b : List Int) (ha : a.length ≤ 1000000000) : Pure Tryz.prog 29 [.sl 1 (ics a) .unk, .sl 1 (ics b) .unk] (.bool (decide (a = b))) := by
  refine pure_val fun σ ns _ => ?_; refine acalls_of_wpc Tryz.mixed Tryz.dr29 Tryz.func29 rfl (Tryz.fit29 _ rfl) Tryz.en29 (fun hσ => ?_); simp [Tryz.ntmps29]
  refine condK_cases (fun h1 => ?_) (fun h1 => ?_) <;> simp [h1] <;> (try simp at h1)
  · exact endA_eq (congrArg AV.bool (decide_eq_false fun e => by subst e; simp at h1).symm) (by simp)
  refine wpc_loop0 (fun i : Nat => [(4, .any), (5, .any), (13, .any), (14, .any), (15, .any), (16, .any), (17, .any), (18, .any), (19, .any), (20, .any), (21, .any), (22, .any), (23, .any), (24, .any), (25, .any),  (13, .int .i64 i)]) (fun i => a.length - i) (fun i => i ≤ a.length ∧ ∀ j < i, iat a j = iat b j) 0 (by simp) ?_ ?_
  · simp
    (repeat' first | exact AVsle.nil | refine AVsle.cons (AVle.any _) ?_ | refine AVsle.cons (AVle.refl _) ?_ | refine AVsle.cons AVLe.le ?_)
  rintro i r ⟨hi, hm⟩
  simp
  refine condK_cases (fun h => ?_) (fun h => ?_) <;> simp [h] <;> (try simp at h)
  · have hg := ics_get h
    have hg' := ics_get (l := b) (i := i) (by omega)
    have w : IntKind.wrap .i64 ((i : Int) + 1) = ((i + 1 : Nat) : Int) := wrap64 (by omega) (by omega)
    simp [hg, hg']
    refine condK_cases (fun h4 => ?_) (fun h4 => ?_) <;> simp [h4] <;> (try simp at h4)
    · exact endA_eq (congrArg AV.bool (decide_eq_false fun e => h4 (by rw [e])).symm) (by simp)
    simp [w]
    (refine loopG_normal (i + 1) (⟨by omega, next_all hm h4⟩) (by omega) ?_ ?_ rfl rfl; rotate_left; exact .of_eq (by simp); simp; (repeat' first | exact AVsle.nil | refine AVsle.cons (AVle.any _) ?_ | refine AVsle.cons (AVle.refl _) ?_ | refine AVsle.cons AVLe.le ?_))
  · obtain rfl : i = a.length := by omega
    refine endA_eq (congrArg AV.bool (decide_eq_true ?_).symm) (by simp)
    exact List.ext_getElem (by omega) fun j h1' h2' => by
      have := hm j h1'
      simpa [iat, h1', h2'] using this
theorem EqualStates_pure (a b : Ws) (ha : a.wher.length ≤ 1000000000) : Pure Tryz.prog 16 [a.av, b.av] (.bool (sameW a b)) := by
  have e : ∀ p q : Prop, [Decidable p] → [Decidable q] → (p ↔ q) → decide p = decide q := fun p q _ _ h => by simp [h]
  refine pure_val fun σ ns _ => ?_; refine acalls_of_wpc Tryz.mixed Tryz.dr16 Tryz.func16 rfl (Tryz.fit16 _ rfl) Tryz.en16 (fun hσ => ?_); simp [Tryz.ntmps16]
  simp [aeqQ]
  have key : sameW a b = (decide (a.q0 = b.q0 ∧ a.q1 = b.q1) && (decide (a.l0 = b.l0 ∧ a.l1 = b.l1) && decide (a.wher = b.wher))) := by
    obtain ⟨q0, q1, l0, l1, wa⟩ := a; obtain ⟨p0, p1, m0, m1, wb⟩ := b
    rw [Bool.eq_iff_iff]; simp [sameW, and_assoc]
  refine guardK_cases (fun h1 => ?_) (fun h1 => ?_) <;> simp [h1]
  · simp [aeqI2]
    refine guardK_cases (fun h2 => ?_) (fun h2 => ?_) <;> simp [h2]
    · first | refine Pure.use_le (equal_pure a.wher b.wher ha) ?_ | refine callT_le (equal_pure a.wher b.wher ha) ?_
      simp
      exact endA_eq (by rw [key]; simp_all) (by simp)
    · exact endA_eq (by rw [key]; simp_all) (by simp)
  · exact endA_eq (by rw [key]; simp_all) (by simp)
end Go.Proofs
