/- Expansion: the walk of the reference's playing. -/
import Derived.Test.YtnanajdckbfamaaGreatDoorX16
set_option linter.unusedVariables false
set_option linter.unusedSimpArgs false
set_option maxRecDepth 100000
namespace Go.Proofs
open Go Go.Abs
attribute [local irreducible] wpc aSeq awAny endA guardK condK CallK callT aPlan onlyL takeL aeffK takeE loopG bodyA thenA inBlockA planK roundG assignG bodyI endI YieldK unrollG endP
theorem gs_up {S : Store} {x : Nm} {o : AObj} {t : Option Nm} (h : ¬ t = some x) : (gs S t).up x o = gs (S.up x o) t := by
  cases t with
  | none => rfl
  | some m => simp only [gs]; rw [Store.up_comm _ (fun e => h (by rw [e]))]
theorem StWk.turnG {r n : Nm} {st u : Store} {o o' : AObj} {t' : Option Nm} (hfr : ∀ x, x.under r = true → st x = none) (hu : u n = some o') (hw : VarWk o' o) (ht : ∀ m, t' = some m → u m = some .tok ∧ ¬ m = n) (h : ∀ m, m.under r = false → ¬ m = n → ¬ t' = some m → u m = st m) : StWk u (gs (st.up n o) t') := fun m p hp => by
  by_cases e : t' = some m
  · rw [gs_tok e] at hp; injection hp with hp; subst hp
    exact ⟨_, (ht m e).1, .inl rfl⟩
  · rw [gs_get e, Store.up_get] at hp
    split at hp
    · rename_i e; subst e; injection hp with hp; subst hp; exact ⟨_, hu, hw⟩
    · rename_i e2
      cases hm : m.under r with
      | true => rw [hfr m hm] at hp; cases hp
      | false => exact ⟨p, by rw [h m hm e2 e]; exact hp, .inl rfl⟩
/-- A statement within the arms' limits, with its kids. -/
structure SmIn (x : Sm) (c : Ce) : Prop where
  flat : x.1.kind ≠ 7 → SbIn x.1 c
  part : x.1.kind = 7 → 0 ≤ partIx c x.1.part
  kids : ∀ k ∈ x.2, SbIn k c
  len : x.2.length ≤ 1000000
theorem SmIn.ok {x : Sm} {c : Ce} (h : SmIn x c) : SmOk x c := ⟨fun k => (h.flat k).ok, h.part, fun _ k hk => (h.kids k hk).ok, h.len⟩
def lift (ks : List Sb) : List Sm := ks.map fun k => (k, [])
theorem smcs_lift (ks : List Sb) : smcs (lift ks) = sbcs ks := by simp [smcs, lift, sbcs]
theorem SbOk.not7 {x : Sb} {c : Ce} (h : SbOk x c) : ¬ x.kind = 7 := by have := h.kind; omega
theorem playT_lift {c : Ce} : ∀ {ks : List Sb} {w : Ws} {l : List Sp}, (∀ k ∈ ks, SbOk k c) → playT c (lift ks) w l = playB c ks w l
  | [], w, l, _ => rfl
  | k :: ks, w, l, h => by
    have hk : ¬ k.kind = 7 := (h k (by simp)).not7
    show playT c ((k, []) :: lift ks) w l = _
    unfold playT playB
    rw [if_neg hk]
    cases play1M k w c l with
    | ok y => exact playT_lift fun x hx => h x (by simp [hx])
    | error e => rfl
def P13 (r : (Ws × List Sp) × (Int × Int)) (t0 : Option Nm) (B : Store) (ns : Nm) : AEnd → Store → Prop := fun e σ' => ∃ t', (t' = none → r.1.2 = []) ∧ (∀ m, t' = some m → B m = none ∧ (t0 = some m ∨ m.under ns = true)) ∧
  e = .ret (.tup [gv 11 t' (spcs r.1.2), r.1.1.av, .agg [.int .i64 r.2.1, .int .i64 r.2.2]]) ∧ σ' = gs B t'
theorem P13.use {r : (Ws × List Sp) × (Int × Int)} {args : List AV} {t0 : Option Nm} {B : Store} {m ns : Nm} {dst : Option Tmp} {K : AS → Prop} {Q : AExit → AS → Prop} {tm : List AV} {cc : Nat} {dfs : List ADf} {F : Fre} (h : ACalls Tryz.prog 28 args (gs B t0) m (P13 r t0 B m))
    (h1 : ∀ t', (t' = none → r.1.2 = []) → (∀ k, t' = some k → B k = none ∧ (t0 = some k ∨ k.under m = true)) → K (AS.put ⟨tm, gs B t', ns, cc, dfs, F⟩ dst (.tup [gv 11 t' (spcs r.1.2), r.1.1.av, .agg [.int .i64 r.2.1, .int .i64 r.2.2]]))) :
    CallK Tryz.prog 28 args m dst K Q ⟨tm, gs B t0, ns, cc, dfs, F⟩ := by
  refine CallK.of h ?_ ?_
  · rintro v σ' ⟨t', g1, g2, hv, rfl⟩; injection hv with hv; subst hv; exact h1 t' g1 g2
  · rintro v σ' ⟨_, _, _, hv, _⟩; cases hv
theorem up_none {S : Store} {x m : Nm} {o : AObj} (h : (S.up x o) m = none) : S m = none := by
  rw [Store.up_get] at h; split at h
  · cases h
  · exact h
/-- A store that keeps another's objects, but for n. -/
def Keeps (n : Nm) (u v : Store) : Prop := ∀ m p, ¬ m = n → v m = some p → u m = some p
theorem Keeps.refl {n : Nm} {u : Store} : Keeps n u u := fun _ _ _ h => h
theorem Keeps.up {n : Nm} {u v : Store} {o : AObj} (h : Keeps n u v) : Keeps n (u.up n o) v := fun m p h1 h2 => by rw [Store.up_get, if_neg h1]; exact h m p h1 h2
theorem Keeps.own {n x : Nm} {u v : Store} {o : AObj} (h : Keeps n u v) (hx : v x = none) : Keeps n (u.up x o) v := fun m p h1 h2 => by
  rw [Store.up_get]; split
  · rename_i e; subst e; rw [hx] at h2; cases h2
  · exact h m p h1 h2
theorem Keeps.gdel {n : Nm} {u v : Store} {t : Option Nm} (h : Keeps n u v) (ht : ∀ m, t = some m → v m = none) : Keeps n (gdel (gs u t) t) v := fun m p h1 h2 => by
  have hm : ¬ t = some m := fun e => by rw [ht m e] at h2; cases h2
  rw [gdel_get hm, gs_get hm]; exact h m p h1 h2
theorem StWk.over {n : Nm} {u v : Store} {o : AObj} (h : Keeps n u v) : StWk (u.up n o) (v.up n o) := fun m p hp => by
  rw [Store.up_get] at hp; split at hp
  · rename_i e; subst e; injection hp with hp; subst hp; exact ⟨_, Store.up_same .., .inl rfl⟩
  · rename_i e; exact ⟨p, by rw [Store.up_get, if_neg e]; exact h m p e hp, .inl rfl⟩
theorem plainR_len {x : Sb} {w : Ws} {c : Ce} : (plainR x w c).1.length ≤ 5 := by
  unfold plainR pickR putR
  repeat' first | (split) | simp
theorem plainR_ne {x : Sb} {w : Ws} {c : Ce} (h : (plainR x w c).2 = 0) : ¬ (plainR x w c).1 = [] := by
  revert h
  unfold plainR pickR putR
  repeat' first | (split) | simp
def Play13C (c : Ce) (n : Nat) : Prop := ∀ (xs : List Sm) (w0 : Ws) (l0 : List Sp) (t0 : Option Nm), (∀ x ∈ xs, SmIn x c) → (n = 0 → ∀ x ∈ xs, ¬ x.1.kind = 7) → xs.length ≤ 1000000 → preS w0 c → l0.length ≤ 300 → (t0 = none → l0 = []) →
    ∀ (B : Store) (ns : Nm), (∀ m, t0 = some m → B m = none) → ACalls Tryz.prog 28 [c.av, .sl 13 (smcs xs) .unk, w0.av, gv 11 t0 (spcs l0), .int .i64 n] (gs B t0) ns (P13 (playT c xs w0 l0) t0 B ns)
set_option maxHeartbeats 4000000 in
theorem play13_step (c : Ce) (n : Nat) (hn4 : n ≤ 4) (ih : ∀ m, n = m + 1 → Play13C c m) : Play13C c n := by
  intro xs w0 l0 t0 hxs h7 hlen hp hl0 htn B ns0 hB
  refine acalls_val fun ns _ hns => ?_; refine acalls_of_wpc Tryz.mixed Tryz.dr28 Tryz.func28 rfl (Tryz.fit28 _ rfl) Tryz.en28 (fun hσ => ?_); simp [Tryz.ntmps28]
  have tn : ∀ x, x.under ns = true → ¬ t0 = some x := gs_new hσ
  have bn : ∀ x, x.under ns = true → B x = none := gs_new' hσ
  simp [tn, gs_up]
  refine wpc_loopN (fun a : Nat × Ws × List Sp × Option Nm => [(3, .any), (10, .any), (13, .any), (14, .any), (15, .any), (16, .any), (17, .any), (18, .any), (19, .any), (20, .any), (21, .any), (22, .any), (23, .any), (24, .any), (25, .any), (26, .any), (27, .any), (28, .any), (29, .any), (30, .any), (31, .any), (32, .any), (33, .any), (34, .any), (35, .any), (36, .any), (37, .any), (38, .any), (39, .any), (40, .any), (41, .any), (42, .any), (43, .any), (44, .any), (45, .any), (46, .any), (47, .any), (48, .any), (49, .any), (50, .any), (51, .any), (52, .any), (53, .any), (54, .any), (55, .any), (56, .any), (57, .any), (58, .any), (59, .any), (60, .any), (61, .any), (62, .any), (63, .any), (64, .any), (65, .any), (66, .any), (67, .any), (68, .any), (69, .any), (70, .any), (71, .any), (72, .any), (73, .any), (74, .any), (75, .any), (76, .any), (77, .any), (78, .any), (79, .any), (80, .any), (81, .any), (82, .any), (83, .any), (84, .any), (85, .any), (86, .any), (87, .any), (88, .any), (89, .any), (90, .any), (91, .any), (92, .any), (93, .any), (94, .any), (95, .any), (96, .any), (97, .any), (98, .any), (99, .any), (100, .any), (101, .any),  (13, .int .i64 a.1), (3, gv 11 a.2.2.2 (spcs a.2.2.1))])
    (fun a => gs (((((B.up ((ns.sub 0).sub 0) (.var c.cells)).up ((ns.sub 0).sub 1) (.var w0.cells)).up ((ns.sub 0).sub 3) (.var [.int .i64 0, .int .i64 0, .int .i64 0, .int .i64 0, .int .i64 0, .int .i64 0, .int .i64 0, .int .i64 0, .sl 0 [] .nil])).up ((ns.sub 0).sub 4) (.var [.int .i64 0, .int .i64 0])).up ((ns.sub 0).sub 1) (.var a.2.1.cells)) a.2.2.2)
    (fun a => xs.length - a.1) (fun a => a.1 ≤ xs.length ∧ preS a.2.1 c ∧ a.2.2.1.length ≤ 300 ∧ playT c (xs.drop a.1) a.2.1 a.2.2.1 = playT c xs w0 l0 ∧ (a.2.2.2 = none → a.2.2.1 = []) ∧ ∀ m, a.2.2.2 = some m → B m = none ∧ (t0 = some m ∨ m.under ns = true) ∧ ∀ k, ¬ m = (ns.sub 0).sub k) (0, w0, l0, t0) ⟨by simp, hp, hl0, by simp, htn, fun m hm => ⟨hB m hm, .inl hm, ?_⟩⟩ ?_ ?_ ?_
  · rintro k rfl; exact tn _ (by simp) hm
  · simp
    (repeat' first | exact AVsle.nil | refine AVsle.cons (AVle.any _) ?_ | refine AVsle.cons (AVle.refl _) ?_ | refine AVsle.cons AVLe.le ?_)
  · exact gs_both (StWk.up_same (.refl _) (by simp))
  rintro ⟨i, w, l, t⟩ r ⟨hi, hpw, hl, hrun, htl, htm⟩ hfr
  dsimp only at hi hpw hl hrun htl htm hfr
  have tr : ∀ x, x.under ((ns.sub 2).sub r) = true → ¬ t = some x := gs_new hfr
  have br := gs_new' hfr
  have t0' : ∀ k, ¬ t = some ((ns.sub 0).sub k) := fun k e => (htm _ e).2.2 k rfl
  have hgn : GNil t (spcs l) := fun e => by rw [htl e]; rfl
  simp [t0', tr]
  refine guardK_cases (fun h => ?_) (fun h => ?_) <;> simp [h] <;> (try simp at h)
  · have hgx := smcs_get h
    rw [dropm_get h] at hrun
    have hxm := hxs (smat xs i) (by simp [smat, h])
    have hx7 := fun e => h7 e (smat xs i) (by simp [smat, h])
    generalize smat xs i = xm at *
    obtain ⟨x, ks⟩ := xm
    have w1 : IntKind.wrap .i64 ((i : Int) + 1) = ((i + 1 : Nat) : Int) := wrap64 (by omega) (by omega)
    simp [hgx, gs_up, tr, t0']
    have hpl : c.parts.length ≤ 1000000 := by have := hpw.2.parts8; omega
    have hcl : c.places.length ≤ 1000000 := by have := hpw.2.places16; omega
    by_cases hk7 : x.kind = 7
    · have k7 : (x.kind == 7) = true := by simp [hk7]
      have hpi := hxm.part hk7
      have hpx : (partIx c x.part).toNat < w.wher.length := by rw [hpw.1.len]; exact partIx_lt hpi
      have hgp := ics_get hpx
      have hst := playB_st (xs := ks) hpw.1 hl
      have hrun' : playT c ((x, ks) :: List.drop (i + 1) xs) w l = if iat w.wher (partIx c x.part).toNat = placeIx c x.place then (if (playB c ks w l).2.1 = 0 then playT c (List.drop (i + 1) xs) (playB c ks w l).1.1 (playB c ks w l).1.2 else playB c ks w l) else playT c (List.drop (i + 1) xs) w l := by
        rw [playT]; simp only [hk7, if_true]
      rw [hrun'] at hrun
      simp [k7, tr, t0']
      first | refine Pure.use_le (part13_pure c x.part hpl) ?_ | refine callT_le (part13_pure c x.part hpl) ?_
      generalize hP : partIx c x.part = P at *
      obtain ⟨p, rfl⟩ := Int.eq_ofNat_of_zero_le hpi
      simp only [Int.toNat_natCast] at hgp hpx hrun
      simp [hgp, tr, t0']
      first | refine Pure.use_le (place13_pure c x.place hcl) ?_ | refine callT_le (place13_pure c x.place hcl) ?_
      simp [hgp, tr, t0']
      refine condK_cases (fun g => ?_) (fun g => ?_) <;> simp [g, w1, tr, t0'] <;> (try simp at g)
      · rw [if_pos g] at hrun
        cases n with
        | zero => exact absurd hk7 (hx7 rfl)
        | succ m =>
        have wm : IntKind.wrap .i64 (m : Int) = (m : Int) := wrap64 (by omega) (by omega)
        have hc := fun (B : Store) (ns : Nm) (hB : ∀ m, t = some m → B m = none) => ih m rfl (lift ks) w l t (fun y hy => by
          obtain ⟨k, hk, rfl⟩ := List.mem_map.1 hy
          exact ⟨fun _ => hxm.kids k hk, fun e => absurd e (hxm.kids k hk).ok.not7, by simp, by simp⟩) (fun _ y hy => by
          obtain ⟨k, hk, rfl⟩ := List.mem_map.1 hy
          exact (hxm.kids k hk).ok.not7) (by have := hxm.len; simpa [lift] using this) hpw hl htl B ns hB
        rw [smcs_lift, playT_lift (fun k hk => (hxm.kids k hk).ok)] at hc
        simp [wm, tr, t0']
        refine P13.use (hc _ _ ?_) (fun t' g1 g2 => ?_)
        · intro k hk
          have h3 := (htm k hk).2.2
          have h4 : k.under ((ns.sub 2).sub r) = false := by
            cases h : k.under ((ns.sub 2).sub r) with
            | false => rfl
            | true => exact absurd hk (tr k h)
          have h5 := (htm k hk).1
          rw [up_other (ns := (ns.sub 2).sub r) (by simp [Nm.under]) h4]
          repeat' first | exact h5 | rw [Store.up_get, if_neg (h3 _)]
        generalize playB c ks w l = rr at *
        have t1' : ∀ k, ¬ t' = some ((ns.sub 0).sub k) := fun k e => by
          rcases (g2 _ e).2 with h | h
          · exact t0' _ h
          · simp [Nm.under] at h
        have tk : ∀ k j, ¬ (j = 4 ∧ k = 7) → ¬ t' = some ((((ns.sub 2).sub r).sub j).sub k) := fun k j hj e => by
          rcases (g2 _ e).2 with h | h
          · exact tr _ (by simp [Nm.under]) h
          · simp [Nm.under] at h; exact hj h
        have tb : ∀ m, t' = some m → B m = none ∧ (t0 = some m ∨ m.under ns = true) ∧ ∀ k, ¬ m = (ns.sub 0).sub k := fun m hm => by
          have h1 := (g2 m hm).1
          refine ⟨?_, ?_, fun k e => t1' k (by rw [hm, e])⟩
          · repeat' first | exact h1 | (have h1 := up_none h1)
          · rcases (g2 m hm).2 with h | h
            · exact (htm m h).2.1
            · exact .inr (Nm.under_trans h (by simp [Nm.under]))
        simp [gs_up, t1', tk]
        by_cases h0 : rr.2.1 = 0
        · rw [if_pos h0] at hrun
          simp [h0, w1, gs_up, t1', tk]
          refine loopG_normal (i + 1, rr.1.1, rr.1.2, t') ⟨by simp only; omega, ⟨hst.1, hpw.2⟩, hst.2, hrun, g1, tb⟩ (by simp only; omega) ?_ ?_ rfl rfl
          · simp
            (repeat' first | exact AVsle.nil | refine AVsle.cons (AVle.any _) ?_ | refine AVsle.cons (AVle.refl _) ?_ | refine AVsle.cons AVLe.le ?_)
          · refine StWk.weak (gs_both (StWk.over ?_))
            repeat' first | exact .refl | refine Keeps.up ?_ | refine Keeps.own ?_ (up_none (br _ (by simp [Nm.under])))
        · rw [if_neg h0] at hrun
          simp [bne_t h0, gs_up, t1', tk]
          rw [← hrun]
          refine endA_gen (.refl _) (StWk.weak (v := gs B t') (gs_both ?_)) ⟨t', g1, fun m hm => ⟨(tb m hm).1, (tb m hm).2.1.imp id fun h => Nm.under_trans h hns⟩, rfl, rfl⟩
          repeat' first | exact .refl _ | refine StWk.own_up ?_ (bn _ (by simp [Nm.under]))
      · rw [if_neg g] at hrun
        refine loopG_normal (i + 1, w, l, t) ⟨by simp only; omega, hpw, hl, hrun, htl, htm⟩ (by simp only; omega) ?_ ?_ rfl rfl
        · simp
          (repeat' first | exact AVsle.nil | refine AVsle.cons (AVle.any _) ?_ | refine AVsle.cons (AVle.refl _) ?_ | refine AVsle.cons AVLe.le ?_)
        · refine StWk.weak (gs_both ?_)
          repeat' first | exact .refl _ | refine StWk.own_up ?_ (br _ (by simp [Nm.under]))
    have k7 : (x.kind == 7) = false := by simp [hk7]
    have hin := hxm.flat hk7
    have hq := play1M_ref (l := l) hpw.1 hpw.2 hin
    have hne := plainR_ne (x := x) (w := w) (c := c)
    have hs5 := plainR_len (x := x) (w := w) (c := c)
    have hst2 := behind_st (l := (plainR x w c).1) hpw.1
    have hrun' : playT c ((x, ks) :: List.drop (i + 1) xs) w l = match play1M x w c l with
      | .ok y => playT c (List.drop (i + 1) xs) y.1 y.2
      | .error k => ((w, l), (k, x.at')) := by rw [playT]; exact if_neg hk7
    rw [hrun', hq] at hrun
    simp [k7, tr, t0']
    first | refine Pure.use_le (plain13_pure x (.sl 13 (sbcs ks) .unk) w c hpw hin.ok) ?_ | refine callT_le (plain13_pure x (.sl 13 (sbcs ks) .unk) w c hpw hin.ok) ?_
    have hb := Behind13_pure c w (plainR x w c).1 hpw
    generalize plainR x w c = p at *
    obtain ⟨s, e⟩ := p
    dsimp only at hrun hne hst2 hb hs5
    simp [tr, t0']
    by_cases he : e = 0
    · subst he
      have hne := hne rfl
      simp [hgn, tr, t0']
      rw [if_neg (by simp)] at hrun
      have w2 : IntKind.wrap .i64 ((l.length : Int) + s.length) = (l.length : Int) + s.length := wrap64 (by omega) (by omega)
      simp [w2]
      refine condK_cases (fun h3 => ?_) (fun h3 => ?_) <;> simp [h3] <;> (try simp at h3)
      · rw [if_neg (by omega)] at hrun
        dsimp only at hrun
        simp [tr, t0', gs_up]
        rw [← hrun]
        refine endA_gen (.refl _) (StWk.weak (v := gs B t) (gs_both ?_)) ⟨t, htl, fun m hm => ⟨(htm m hm).1, (htm m hm).2.1.imp id fun h => Nm.under_trans h hns⟩, rfl, rfl⟩
        repeat' first | exact .refl _ | refine StWk.own_up ?_ (bn _ (by simp [Nm.under]))
      · rw [if_pos (by omega)] at hrun
        dsimp only at hrun
        have hs0 : ¬ spcs s = [] := fun e => by have := congrArg List.length e; simp at this; exact hne this
        have hone : ∀ x ∈ spcs s, ∀ y ∈ x, y.one = true := by
          intro x hx y hy
          obtain ⟨z, _, rfl⟩ := List.mem_map.1 hx
          simp at hy
          rcases hy with rfl | rfl | rfl | rfl | rfl | rfl | rfl | rfl | rfl | rfl | rfl <;> rfl
        have h88 : (l.length + s.length) * 88 ≤ 140737488355328 := by omega
        have hsp : spcs l ++ spcs s = spcs (l ++ s) := by simp [spcs]
        simp [hgn, tr, t0', gs_up, hs0, h88]
        rw [if_pos hone]
        simp [tr, t0', gs_up, hsp]
        first | refine Pure.use_le (hb (by omega)) ?_ | refine callT_le (hb (by omega)) ?_
        simp [tr, t0', gs_up, w1]
        refine loopG_normal (i + 1, behind c w s, l ++ s, some ((((ns.sub 2).sub r).sub 6).sub 2)) ⟨by simp only; omega, ⟨hst2, hpw.2⟩, by simp only [List.length_append]; omega, hrun, by simp, ?_⟩ (by simp only; omega) ?_ ?_ rfl rfl
        · rintro m hm
          injection hm with hm; subst hm
          exact ⟨bn _ (by simp [Nm.under]), .inr (by simp [Nm.under]), fun k => by simp⟩
        · simp
          (repeat' first | exact AVsle.nil | refine AVsle.cons (AVle.any _) ?_ | refine AVsle.cons (AVle.refl _) ?_ | refine AVsle.cons AVLe.le ?_)
        · rw [Store.up_comm _ (show ¬ (((((ns.sub 2).sub r).sub 6).sub 2) = ((ns.sub 0).sub 1)) by simp)]
          refine StWk.weak (StWk.both (StWk.over (Keeps.gdel ?_ ?_)) (.inl rfl))
          · repeat' first | exact .refl | refine Keeps.up ?_ | refine Keeps.own ?_ (up_none (br _ (by simp [Nm.under])))
          · intro m hm
            have h3 := (htm m hm).2.2
            have h5 := (htm m hm).1
            repeat' first | exact h5 | rw [Store.up_get, if_neg (h3 _)]
    · rw [if_pos he] at hrun
      dsimp only at hrun
      have he' : (e == 0) = false := by simp [he]
      simp [he', bne_t he, tr, t0', gs_up]
      rw [← hrun]
      refine endA_gen (.refl _) (StWk.weak (v := gs B t) (gs_both ?_)) ⟨t, htl, fun m hm => ⟨(htm m hm).1, (htm m hm).2.1.imp id fun h => Nm.under_trans h hns⟩, rfl, rfl⟩
      repeat' first | exact .refl _ | refine StWk.own_up ?_ (bn _ (by simp [Nm.under]))
  · obtain rfl : i = xs.length := by omega
    simp [gs_up, t0', tr]
    have hr2 : playT c xs w0 l0 = ((w, l), (0, 0)) := by rw [← hrun]; simp [playT]
    rw [hr2]
    refine endA_gen (.refl _) (StWk.weak (v := gs B t) (gs_both ?_)) ⟨t, htl, fun m hm => ⟨(htm m hm).1, (htm m hm).2.1.imp id fun h => Nm.under_trans h hns⟩, rfl, rfl⟩
    repeat' first | exact .refl _ | refine StWk.own_up ?_ (bn _ (by simp))
end Go.Proofs
