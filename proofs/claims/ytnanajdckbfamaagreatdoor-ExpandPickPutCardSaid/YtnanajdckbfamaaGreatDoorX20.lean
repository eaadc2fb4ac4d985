/- Expansion: the walk of the law's programs of raw data. -/
import Derived.Test.YtnanajdckbfamaaGreatDoorX19
set_option linter.unusedVariables false
set_option linter.unusedSimpArgs false
set_option maxRecDepth 100000
namespace Go.Proofs
open Go Go.Abs
attribute [local irreducible] wpc aSeq awAny endA guardK condK CallK callT aPlan onlyL takeL aeffK takeE loopG bodyA thenA inBlockA planK roundG assignG bodyI endI YieldK unrollG endP
theorem AVle.sl_last {k : Nat} {pre : List (List AV)} {e e' : List AV} {c : Cap} (h : AVsle e e') : AVle (.sl k (pre ++ [e]) c) (.sl k (pre ++ [e']) c) := fun ρ M x hx => by
  generalize hes : pre ++ [e] = es at hx
  cases hx with
  | slnil h => simp at hes
  | slz a h => simp at hes
  | sl hsz hcap hc ht h1 h2 =>
    subst hes
    have hl : (pre ++ [e]).length = (pre ++ [e']).length := by simp
    have get : ∀ (i j : Nat) (d : List AV) (v : AV), (pre ++ [e'])[i]? = some d → d[j]? = some v → ∃ d0 v0, (pre ++ [e])[i]? = some d0 ∧ d0[j]? = some v0 ∧ AVle v0 v := by
      intro i j d v hi hj
      by_cases hp : i < pre.length
      · rw [List.getElem?_append_left hp] at hi
        exact ⟨d, v, by rw [List.getElem?_append_left hp]; exact hi, hj, .refl _⟩
      · have hi2 : i = pre.length := by
          have := (List.getElem?_eq_some_iff.1 hi).1
          simp at this; omega
        subst hi2
        simp at hi; subst hi
        have hj' : j < e.length := by rw [h.1]; exact (List.getElem?_eq_some_iff.1 hj).1
        exact ⟨e, e[j], by simp, List.getElem?_eq_getElem hj', h.2 j _ _ (List.getElem?_eq_getElem hj') hj⟩
    rw [hl] at hcap hc ht ⊢
    refine .sl (fun d hd => ?_) hcap hc ht (fun i j d v hi hj => ?_) (fun i j d v x hi hj hx => ?_)
    · rcases List.mem_append.1 hd with hd | hd
      · exact hsz d (List.mem_append_left _ hd)
      · simp at hd; subst hd
        rw [← h.1]; exact hsz e (by simp)
    · obtain ⟨d0, v0, g1, g2, _⟩ := get i j d v hi hj
      exact h1 i j d0 v0 g1 g2
    · obtain ⟨d0, v0, g1, g2, g3⟩ := get i j d v hi hj
      exact g3 _ _ _ (h2 i j d0 v0 x g1 g2 hx)
instance {k : Nat} {pre : List (List AV)} {e e' : List AV} {c : Cap} [h : AVsLe e e'] : AVLe (.sl k (pre ++ [e]) c) (.sl k (pre ++ [e']) c) := ⟨AVle.sl_last h.le⟩
theorem StWk.over' {n : Nm} {u v : Store} {o o' : AObj} (hw : VarWk o o') (h : Keeps n u v) : StWk (u.up n o) (v.up n o') := fun m p hp => by
  rw [Store.up_get] at hp; split at hp
  · rename_i e; subst e; injection hp with hp; subst hp; exact ⟨_, Store.up_same .., hw⟩
  · rename_i e; exact ⟨p, by rw [Store.up_get, if_neg e]; exact h m p e hp, .inl rfl⟩
theorem sbcs_one (x : Sb) : sbcs [x] = [x.cells (.sl 13 [] .unk)] := rfl
theorem smcs_one (x : Sm) : smcs [x] = [x.1.cells (.sl 13 (sbcs x.2) .unk)] := rfl
theorem sbcs_nil : sbcs [] = [] := rfl
theorem gv_le {k : Nat} {c : Option Nm} {es : List (List AV)} (h : c = none → es = []) : AVle (gv k c es) (.sl k es .unk) := by
  cases c with
  | none => rw [h rfl]; exact AVle.unk
  | some m => exact AVle.unk
theorem gv_one {k : Nat} {c : Option Nm} {es : List (List AV)} : (gv k c es).one = true := by cases c <;> rfl
theorem Keeps.gs {n : Nm} {u v : Store} {t : Option Nm} (h : Keeps n u v) : Keeps n (gs u t) (gs v t) := fun m p h1 h2 => by
  by_cases e : t = some m
  · rw [gs_tok e] at h2 ⊢; exact h2
  · rw [gs_get e] at h2 ⊢; exact h m p h1 h2
def kidsN (c : Ce) (l : List Wd) (i : Nat) : Nat → List Sb
  | 0 => []
  | n + 1 => kidsN c l i n ++ (if (stmtOf c (wdat l (i + 1 + n)) (i + 1 + n : Nat)).kind = 7 then [] else [stmtOf c (wdat l (i + 1 + n)) (i + 1 + n : Nat)])
def smOf (c : Ce) (l : List Wd) (i : Nat) : Sm := (stmtOf c (wdat l i) i, if (stmtOf c (wdat l i) i).kind = 7 then kidsN c l i (min 4 (l.length - 1 - i)) else [])
def smsN (c : Ce) (l : List Wd) : Nat → List Sm
  | 0 => []
  | n + 1 => smsN c l n ++ [smOf c l n]
def smsOf (c : Ce) (l : List Wd) : List Sm := smsN c l (min 12 l.length)
theorem sbcs_app (a b : List Sb) : sbcs (a ++ b) = sbcs a ++ sbcs b := by simp [sbcs]
theorem smcs_app (a b : List Sm) : smcs (a ++ b) = smcs a ++ smcs b := by simp [smcs]
theorem kidsN_len (c : Ce) (l : List Wd) (i : Nat) : ∀ n, (kidsN c l i n).length ≤ n
  | 0 => by simp [kidsN]
  | n + 1 => by have := kidsN_len c l i n; unfold kidsN; split <;> simp <;> omega
theorem smsN_len (c : Ce) (l : List Wd) : ∀ n, (smsN c l n).length = n
  | 0 => rfl
  | n + 1 => by simp [smsN, smsN_len c l n]
set_option maxHeartbeats 4000000 in
theorem Stmts_pure (c : Ce) (hc : RightC c) (l : List Wd) (hl : l.length ≤ 1000000000) (hok : ∀ x ∈ l, WdOk x) : Pure Tryz.prog 11 [c.av, .sl 11 (wdcs l) .unk] (.sl 13 (smcs (smsOf c l)) .unk) := by
  have hat : ∀ i, i < l.length → WdOk (wdat l i) := fun i h => hok _ (by simp [wdat, h])
  refine pure_val fun σ ns _ => ?_; refine acalls_of_wpc Tryz.mixed Tryz.dr11 Tryz.func11 rfl (Tryz.fit11 _ rfl) Tryz.en11 (fun hσ => ?_); simp [Tryz.ntmps11]
  refine wpc_loopN (fun a : Nat × Option Nm => [(5, .any), (6, .any), (7, .any), (8, .any), (9, .any), (10, .any), (11, .any), (12, .any), (13, .any), (14, .any), (15, .any), (16, .any), (17, .any), (18, .any), (19, .any), (20, .any), (21, .any), (22, .any), (23, .any), (24, .any), (25, .any), (26, .any), (27, .any), (28, .any), (29, .any), (30, .any), (31, .any), (32, .any), (33, .any), (34, .any), (35, .any), (36, .any), (37, .any), (38, .any), (39, .any), (40, .any), (41, .any), (42, .any), (43, .any), (44, .any), (45, .any), (46, .any), (47, .any), (48, .any), (49, .any), (50, .any), (51, .any), (52, .any), (53, .any), (54, .any), (55, .any), (56, .any), (57, .any), (58, .any), (59, .any), (60, .any), (61, .any), (62, .any), (63, .any),  (6, .int .i64 a.1), (5, gv 13 a.2 (smcs (smsN c l a.1)))]) (fun a => gs (σ.up ((ns.sub 0).sub 0) (.var c.cells)) a.2) (fun a => 12 - a.1)
    (fun a => (a.1 ≤ l.length ∧ a.1 ≤ 12) ∧ Abs.gok ns (σ.up ((ns.sub 0).sub 0) (.var c.cells)) a.2 (smcs (smsN c l a.1))) (0, none) ⟨by simp, rfl⟩ ?_ ?_ ?_
  · simp [smsN, smcs, gv_none]
    (repeat' first | exact AVsle.nil | refine AVsle.cons (AVle.any _) ?_ | refine AVsle.cons (AVle.refl _) ?_ | refine AVsle.cons AVLe.le ?_)
  · exact .refl _
  rintro ⟨i, t⟩ r ⟨hi, hk⟩ hfr
  dsimp only at hi hk hfr
  have tr : ∀ x, x.under ((ns.sub 3).sub r) = true → ¬ t = some x := gs_new hfr
  have br := gs_new' hfr
  have t0 : ¬ t = some ((ns.sub 0).sub 0) := fun e => by have := hk.fresh _ e; simp at this
  have fin : i = min 12 l.length → endA (some (gv 13 t (smcs (smsN c l i)))) (gs (σ.up ((ns.sub 0).sub 0) (.var c.cells)) t) [] σ ns (fun e σ' => e = .ret (.sl 13 (smcs (smsOf c l)) .unk) ∧ σ' = σ) := fun e => by
    unfold smsOf
    rw [← e]
    refine endA_weak hk.le (StWeak.same ?_)
    rw [restoreS_gs hk.own]; simp
  simp [t0, tr]
  refine guardK_cases (fun h => ?_) (fun h => ?_) <;> simp [h] <;> (try simp at h)
  · have hg := wdcs_get h
    have hx := hat i h
    refine condK_cases (fun h2 => ?_) (fun h2 => ?_) <;> simp [h2] <;> (try simp at h2)
    · have hks : smsN c l (i + 1) = smsN c l i ++ [smOf c l i] := rfl
      unfold smOf at hks
      have w1 : IntKind.wrap .i64 ((i : Int) + 1) = ((i + 1 : Nat) : Int) := wrap64 (by omega) (by omega)
      have hlen := smsN_len c l i
      have h136 : ((smsN c l i).length + 1) * 136 ≤ 140737488355328 := by omega
      simp [hg, t0, tr]
      first | refine Pure.use_le (stmt_pure c hc (wdat l i) hx i) ?_ | refine callT_le (stmt_pure c hc (wdat l i) hx i) ?_
      generalize stmtOf c (wdat l i) i = s at *
      simp [gs_up, t0, tr]
      refine condK_cases (fun h7 => ?_) (fun h7 => ?_) <;> simp [h7] <;> (try simp at h7)
      · rw [if_pos h7] at hks
        refine wpc_loopN (fun a : Nat × Option Nm => [(8, .any), (9, .any), (32, .any), (33, .any), (34, .any), (35, .any), (36, .any), (37, .any), (38, .any), (39, .any), (40, .any), (41, .any), (42, .any), (43, .any), (44, .any), (45, .any), (46, .any), (47, .any), (48, .any), (49, .any), (50, .any), (51, .any), (52, .any), (53, .any), (54, .any), (55, .any), (56, .any), (57, .any), (58, .any), (59, .any),  (8, .int .i64 (i + 1 + a.1 : Nat))])
          (fun a => gs (gs ((σ.up ((ns.sub 0).sub 0) (.var c.cells)).up ((((ns.sub 3).sub r).sub 1).sub 7) (.var (s.cells (gv 13 a.2 (sbcs (kidsN c l i a.1)))))) t) a.2) (fun a => 4 - a.1)
          (fun a => (i + 1 + a.1 ≤ l.length ∧ a.1 ≤ 4) ∧ (a.2 = none → kidsN c l i a.1 = []) ∧ ∀ m, a.2 = some m → m.under ((ns.sub 3).sub r) = true ∧ ¬ m = (((ns.sub 3).sub r).sub 1).sub 7) (0, none) ⟨by simp only; omega, by simp [kidsN], by simp⟩ ?_ ?_ ?_
        · simp [w1]
          (repeat' first | exact AVsle.nil | refine AVsle.cons (AVle.any _) ?_ | refine AVsle.cons (AVle.refl _) ?_ | refine AVsle.cons AVLe.le ?_)
        · refine gs_both (t := t) (StWk.both (.refl _) (.inr ⟨_, _, rfl, rfl, ?_⟩))
          simp [gv_none]
          (repeat' first | exact AVsle.nil | refine AVsle.cons (AVle.any _) ?_ | refine AVsle.cons (AVle.refl _) ?_ | refine AVsle.cons AVLe.le ?_)
        rintro ⟨n, t2⟩ r2 ⟨hn, hn0, htu⟩ hfr2
        dsimp only at hn hn0 htu hfr2
        have u2 : ∀ x, x.under ((((ns.sub 3).sub r).sub 4).sub r2) = true → ¬ t2 = some x := gs_new hfr2
        have v2 := gs_new' hfr2
        have tr2 : ∀ x, x.under ((((ns.sub 3).sub r).sub 4).sub r2) = true → ¬ t = some x := gs_new v2
        have v3 := gs_new' v2
        have g2 : GNil t2 (sbcs (kidsN c l i n)) := fun e => by rw [hn0 e]; rfl
        have t27 : ¬ t2 = some ((((ns.sub 3).sub r).sub 1).sub 7) := fun e => (htu _ e).2 rfl
        have t20 : ¬ t2 = some ((ns.sub 0).sub 0) := fun e => by have := (htu _ e).1; simp [Nm.under] at this
        have hk2 := kidsN_len c l i n
        have w3 : IntKind.wrap .i64 ((i : Int) + 5) = (i : Int) + 5 := wrap64 (by omega) (by omega)
        have w4 : IntKind.wrap .i64 ((i : Int) + 1 + n + 1) = (i : Int) + 1 + n + 1 := wrap64 (by omega) (by omega)
        have hdj : ∀ m, t = some m → ¬ t2 = some m := fun m h1 h2 => tr m (htu m h2).1 h1
        have tok2 : ∀ S : Store, TokAt (gs (gs S t) t2) t := fun S => tokAt_two hdj
        have h136' : ((kidsN c l i n).length + 1) * 136 ≤ 140737488355328 := by omega
        simp [t0, tr, t20, t27, u2, w3]
        refine guardK_cases (fun h3 => ?_) (fun h3 => ?_) <;> simp [h3] <;> (try simp at h3)
        · refine condK_cases (fun h4 => ?_) (fun h4 => ?_) <;> simp [h4] <;> (try simp at h4)
          · have hkn : kidsN c l i (n + 1) = kidsN c l i n ++ (if (stmtOf c (wdat l (i + 1 + n)) (i + 1 + n : Nat)).kind = 7 then [] else [stmtOf c (wdat l (i + 1 + n)) (i + 1 + n : Nat)]) := rfl
            obtain ⟨k, hk1⟩ : ∃ k, k = i + 1 + n := ⟨_, rfl⟩
            rw [← hk1] at hkn
            have hgk := wdcs_get (l := l) (i := k) (by omega)
            have hxk := hat k (by omega)
            have hgi : (i : Int) + 1 + n = (k : Int) := by omega
            have w5 : IntKind.wrap .i64 ((k : Int) + 1) = (k : Int) + 1 := wrap64 (by omega) (by omega)
            simp [hgi, hgk, t0, tr, t20, t27, u2]
            first | refine Pure.use_le (stmt_pure c hc (wdat l k) hxk k) ?_ | refine callT_le (stmt_pure c hc (wdat l k) hxk k) ?_
            generalize stmtOf c (wdat l k) k = y at *
            simp [gs_up, t0, tr, t20, t27, u2]
            refine condK_cases (fun h8 => ?_) (fun h8 => ?_) <;> simp [h8] <;> (try simp at h8)
            · rw [if_neg h8] at hkn
              simp [gs_up, t0, tr, t20, t27, u2, g2, h136', w5]
              have tx7 : ¬ t = some ((((ns.sub 3).sub r).sub 1).sub 7) := tr _ (by simp [Nm.under])
              refine loopG_normal (n + 1, some ((((((ns.sub 3).sub r).sub 4).sub r2).sub 3).sub 4)) ⟨by simp only; omega, by simp, by simp [Nm.under]⟩ (by simp only; omega) ?_ ?_ rfl rfl
              · simp [← hgi]
                (repeat' first | exact AVsle.nil | refine AVsle.cons (AVle.any _) ?_ | refine AVsle.cons (AVle.refl _) ?_ | refine AVsle.cons AVLe.le ?_)
              · rw [Store.up_comm _ (show ¬ ((((((ns.sub 3).sub r).sub 4).sub r2).sub 3).sub 4) = ((((ns.sub 3).sub r).sub 1).sub 7) by simp)]
                refine StWk.weak ?_
                show StWk _ ((gs ((σ.up ((ns.sub 0).sub 0) (.var c.cells)).up ((((ns.sub 3).sub r).sub 1).sub 7) (.var (s.cells (gv 13 (some ((((((ns.sub 3).sub r).sub 4).sub r2).sub 3).sub 4)) (sbcs (kidsN c l i (n + 1))))))) t).up ((((((ns.sub 3).sub r).sub 4).sub r2).sub 3).sub 4) .tok)
                rw [← gs_up tx7]
                refine StWk.both (StWk.over' (.inr ⟨_, _, rfl, rfl, ?_⟩) (Keeps.gdel (Keeps.gs ?_) ?_)) (.inl rfl)
                · rw [hkn, sbcs_app]
                  simp [sbcs_one, gv_some]
                  (repeat' first | exact AVsle.nil | refine AVsle.cons (AVle.any _) ?_ | refine AVsle.cons (AVle.refl _) ?_ | refine AVsle.cons AVLe.le ?_)
                · repeat' first | exact .refl | refine Keeps.up ?_ | refine Keeps.own ?_ (br _ (by simp [Nm.under]))
                · intro m hm
                  rw [gs_get (tr m (htu m hm).1)]
                  exact br m (htu m hm).1
            · rw [if_pos h8] at hkn
              simp [w5]
              refine loopG_normal (n + 1, t2) ⟨by simp only; omega, by rw [hkn]; simpa using hn0, htu⟩ (by simp only; omega) ?_ ?_ rfl rfl
              · simp [← hgi]
                (repeat' first | exact AVsle.nil | refine AVsle.cons (AVle.any _) ?_ | refine AVsle.cons (AVle.refl _) ?_ | refine AVsle.cons AVLe.le ?_)
              · rw [hkn]
                simp only [List.append_nil]
                refine StWk.weak (gs_both (gs_both ?_))
                repeat' first | exact .refl _ | refine StWk.own_up ?_ (v3 _ (by simp [Nm.under]))
          · have hm : min 4 (l.length - 1 - i) = n := by omega
            rw [hm] at hks
            simp [gs_up, t0, tr, t20, t27, tok2, hk.gnil, w1, h136, gv_one]
            refine loopG_normal (i + 1, some ((((ns.sub 3).sub r).sub 5).sub 3)) ⟨by simp only; omega, gok_some (by simp [Nm.under]) (br _ (by simp [Nm.under]))⟩ (by simp only; omega) ?_ ?_ rfl rfl
            · haveI : AVLe (gv 13 t2 (sbcs (kidsN c l i n))) (.sl 13 (sbcs (kidsN c l i n)) .unk) := ⟨gv_le fun e => by rw [hn0 e]; rfl⟩
              simp [hks, smcs_app, smcs_one, sbcs_nil, gv_some]
              (repeat' first | exact AVsle.nil | refine AVsle.cons (AVle.any _) ?_ | refine AVsle.cons (AVle.refl _) ?_ | refine AVsle.cons AVLe.le ?_)
            · refine StWk.weak (StWk.both (StWk.own_gdel (StWk.own_gs (StWk.own_gs ?_ hk.fresh) fun m h => br m (htu m h).1) hk.fresh) (.inl rfl))
              repeat' first | exact .refl _ | refine StWk.own_up ?_ (br _ (by simp [Nm.under]))
        · have hm : min 4 (l.length - 1 - i) = n := by omega
          rw [hm] at hks
          simp [gs_up, t0, tr, t20, t27, tok2, hk.gnil, w1, h136, gv_one]
          refine loopG_normal (i + 1, some ((((ns.sub 3).sub r).sub 5).sub 3)) ⟨by simp only; omega, gok_some (by simp [Nm.under]) (br _ (by simp [Nm.under]))⟩ (by simp only; omega) ?_ ?_ rfl rfl
          · haveI : AVLe (gv 13 t2 (sbcs (kidsN c l i n))) (.sl 13 (sbcs (kidsN c l i n)) .unk) := ⟨gv_le fun e => by rw [hn0 e]; rfl⟩
            simp [hks, smcs_app, smcs_one, sbcs_nil, gv_some]
            (repeat' first | exact AVsle.nil | refine AVsle.cons (AVle.any _) ?_ | refine AVsle.cons (AVle.refl _) ?_ | refine AVsle.cons AVLe.le ?_)
          · refine StWk.weak (StWk.both (StWk.own_gdel (StWk.own_gs (StWk.own_gs ?_ hk.fresh) fun m h => br m (htu m h).1) hk.fresh) (.inl rfl))
            repeat' first | exact .refl _ | refine StWk.own_up ?_ (br _ (by simp [Nm.under]))
      · rw [if_neg h7] at hks
        simp [gs_up, t0, tr, hk.gnil, w1, h136]
        refine loopG_normal (i + 1, some ((((ns.sub 3).sub r).sub 3).sub 3)) ⟨by simp only; omega, gok_some (by simp [Nm.under]) (br _ (by simp [Nm.under]))⟩ (by simp only; omega) ?_ ?_ rfl rfl
        · simp [hks, smcs_app, smcs_one, sbcs_nil, gv_some]
          (repeat' first | exact AVsle.nil | refine AVsle.cons (AVle.any _) ?_ | refine AVsle.cons (AVle.refl _) ?_ | refine AVsle.cons AVLe.le ?_)
        · refine StWk.weak (StWk.both (StWk.own_gdel (StWk.own_gs ?_ hk.fresh) hk.fresh) (.inl rfl))
          repeat' first | exact .refl _ | refine StWk.own_up ?_ (br _ (by simp [Nm.under]))
    · exact fin (by omega)
  · exact fin (by omega)
end Go.Proofs
