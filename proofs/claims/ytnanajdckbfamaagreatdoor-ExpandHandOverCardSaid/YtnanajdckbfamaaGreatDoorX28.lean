/- Expansion: the walk of ExpandHandOver. -/
import Derived.Test.YtnanajdckbfamaaGreatDoorX23
import Derived.Test.YtnanajdckbfamaaGreatDoorMG
set_option linter.unusedVariables false
set_option linter.unusedSimpArgs false
set_option maxRecDepth 100000
namespace Go.Proofs
open Go Go.Abs
attribute [local irreducible] wpc aSeq awAny endA guardK condK CallK callT aPlan onlyL takeL aeffK takeE loopG bodyA thenA inBlockA planK roundG assignG bodyI endI YieldK unrollG endP
theorem sl_one {k : Nat} {e e' : List AV} {c : Cap} (h : AVsle e e') : AVle (.sl k [e] c) (.sl k [e'] .unk) := fun ρ M x hx => AVle.unk _ _ _ (AVle.sl_last (pre := []) h _ _ _ hx)
set_option maxHeartbeats 4000000 in
theorem handover_pure (c : Ce) (l : List Wd) (hok : ∀ x ∈ l, WdOk x) (a : Nat) (ha : a < 256) (p : Nat) (hp : p < 256) : PureG 8 [c.av, .sl 11 (wdcs l) .unk, .int .u8 a, .int .u8 p] (.bool true) := by
  refine pureG_val fun σ ns gl go _ hgo hg => ?_
  refine acalls_of_wpc Tryz.mixed Tryz.dr8 Tryz.func8 rfl (Tryz.fit8 _ rfl) Tryz.en8 (fun hσ => ?_); simp [Tryz.ntmps8]
  have hgg := ne_own hσ hg
  have hg2 := own_ne hσ hg
  refine head13_pure.use (gl := gl) hgo (by simp [hg, hgg, hg2]) ?_
  simp
  first | refine Pure.use_le (Great13_pure c l) ?_ | refine callT_le (Great13_pure c l) ?_
  simp
  refine guardK_cases (fun h1 => ?_) (fun h1 => ?_) <;> simp [h1]
  · exact endA_eq rfl (by simp)
  refine condK_cases (fun h2 => ?_) (fun h2 => ?_) <;> simp [h2] <;> (try simp at h2)
  · exact endA_eq rfl (by simp)
  obtain ⟨hc, h40⟩ := great13_right h1
  have hpre := first_pre hc
  have hpl : c.parts.length ≤ 1000000 := by have := hc.parts8; omega
  have hl : l.length ≤ 1000000000 := by omega
  have hin := smsOf_in hc l
  have hsl := smsOf_len c l
  have hall := playT_all (xs := smsOf c l) (l := []) hpre.1 (by simp)
  have r2 := Steps13_pure c (smsOf c l) (first c) hin (by omega) hpre
  generalize playT c (smsOf c l) (first c) [] = pr at *
  obtain ⟨⟨w', ss⟩, e, k⟩ := pr
  dsimp only at hall r2
  first | refine Pure.use_le (Stmts_pure c hc l hl hok) ?_ | refine callT_le (Stmts_pure c hc l hl hok) ?_
  simp
  first | refine Pure.use_le (First9_pure c hpl) ?_ | refine callT_le (First9_pure c hpl) ?_
  simp
  first | refine Pure.use_le (r2) ?_ | refine callT_le (r2) ?_
  simp
  first | refine Pure.use_le (First9_pure c hpl) ?_ | refine callT_le (First9_pure c hpl) ?_
  simp
  first | refine Pure.use_le (Behind13_pure c (first c) ss hpre (by omega)) ?_ | refine callT_le (Behind13_pure c (first c) ss hpre (by omega)) ?_
  have hbs := behind_st (l := ss) hpre.1
  generalize behind c (first c) ss = wb at *
  have hpc : c.places.length ≤ 16 := hc.places16
  have hp0 : 0 < c.places.length := by cases hh : c.places with | nil => simp [hh] at h2 | cons x xs => simp
  have v1 : IntKind.wrap .i64 (a : Int) = (a : Int) := wrap_nat (by omega)
  have v2 : IntKind.wrap .i64 (p : Int) = (p : Int) := wrap_nat (by omega)
  have hpn : ¬ c.places = [] := h2
  have v4 : (a : Int).tmod 2 = ((a % 2 : Nat) : Int) := tmodN a 2
  have v5 := tmodN p c.places.length
  have hpi : p % c.places.length < c.places.length := Nat.mod_lt _ hp0
  obtain ⟨pl, hpl2⟩ : ∃ j, p % c.places.length = j := ⟨_, rfl⟩
  obtain ⟨ar, har⟩ : ∃ j, a % 2 = j := ⟨_, rfl⟩
  have harm : ar = 0 ∨ ar = 1 := by omega
  rw [hpl2] at v5 hpi
  rw [har] at v4
  have hgp := plcs_get hpi
  simp [v1, v2, hpn, v4, v5, hgp]
  generalize hX : (⟨5, (ar : Int), ⟨#[]⟩, (plat c.places pl).name, 0, j0', j0', 0⟩ : Sb) = X
  have hXk : X.kind = 5 := by rw [← hX]
  have hXa : X.arm = ar := by rw [← hX]
  have hXp : X.place = (plat c.places pl).name := by rw [← hX]
  have hXt : X.at' = 0 := by rw [← hX]
  have hXn : X.n = 0 := by rw [← hX]
  have hXc : AVsle [.int .i64 5, .int .i64 ar, .str ⟨#[]⟩, .str (plat c.places pl).name, .int .i64 0, .int .i64 0, .int .i64 0, .int .i64 0, .int .i64 0, .int .i64 0, .int .i64 0, .sl 0 [] .nil, .int .i64 0] (X.cells (.sl 13 (sbcs []) .unk)) := by rw [← hX, sbcs_nil]; (repeat' first | exact AVsle.nil | refine AVsle.cons (AVle.any _) ?_ | refine AVsle.cons (AVle.refl _) ?_ | refine AVsle.cons AVLe.le ?_)
  have hix : placeIx c X.place = pl := by rw [hXp]; exact placeIx_self hc hpi
  have hXa' : X.arm = 0 ∨ X.arm = 1 := by omega
  have hin3 : SbIn X c := ⟨⟨by omega, hXa', fun e => by omega, fun e => by omega⟩, fun e => by omega, fun e => by omega, by omega⟩
  have r3 := steps_pureG c [(X, [])] wb (fun x hx => by simp at hx; subst hx; exact ⟨fun _ => hin3.ok, fun e => by simp at e; omega, fun e => by simp, by simp⟩) (by simp) ⟨hbs, hc⟩
  rw [playT_one hbs hc hin3 (by omega), show plainR X wb c = putR X wb c by simp [plainR, hXk]] at r3
  have hps := put_start hbs hXa' (by omega) (.inr hXk)
  generalize putR X wb c = pr at *
  obtain ⟨s5, e5⟩ := pr
  dsimp only at hps r3
  by_cases h0 : e5 = 0
  · rw [if_neg (not_not_intro h0)] at r3
    obtain ⟨g1, -, g2⟩ := hps h0
    obtain ⟨g3, g4, g5, g6, g7⟩ := g2 hXk
    have hvb := behind_st (l := s5) hbs
    simp only at r3
    apply cut_
    · intro key
      repeat' apply And.intro
      all_goals
        refine (r3.weaken ?_).use (gl := gl) hgo (by simp [hg, hgg, hg2]) ?_
        · rw [smcs_one]
          refine AVsle.cons (AVle.refl _) (AVsle.cons ?_ (AVsle.cons (AVle.refl _) .nil))
          exact sl_one hXc
        simp
        exact key
    first | refine Pure.use_le (Behind13_pure c wb s5 ⟨hbs, hc⟩ (by omega)) ?_ | refine callT_le (Behind13_pure c wb s5 ⟨hbs, hc⟩ (by omega)) ?_
    generalize behind c wb s5 = v at *
    have hv1 : v.wher.length = wb.wher.length := by rw [g7]
    have hwl : wb.wher.length ≤ 8 := by have := hbs.len; have := hc.parts8; omega
    rw [hXa] at g1 g4 g5 g6
    rcases harm with rfl | rfl
    · have g1' : (wb.l0 == -1) = false := by have : 0 ≤ wb.l0 := g1; simp; omega
      have g4' : v.l1 = wb.l0 := g4
      have g5' : v.l0 = -1 := g5
      have g6' : v.q0 = wb.q0 := g6
      have z0 := aeqJ8 wb.q0 wb.q0
      simp [g1', g4', g5', g6', g3, z0]
      refine wpc_loop0 (fun i : Nat => [(8, .any), (125, .any), (126, .any), (127, .any), (128, .any), (129, .any), (130, .any), (131, .any), (132, .any), (133, .any), (134, .any), (135, .any), (136, .any), (137, .any), (138, .any), (139, .any), (140, .any), (141, .any), (142, .any), (17, .int .i64 i)]) (fun i => wb.wher.length - i) (fun i => i ≤ wb.wher.length) 0 (by simp) ?_ ?_
      · simp
        (repeat' first | exact AVsle.nil | refine AVsle.cons (AVle.any _) ?_ | refine AVsle.cons (AVle.refl _) ?_ | refine AVsle.cons AVLe.le ?_)
      rintro i r hi
      simp
      refine condK_cases (fun h => ?_) (fun h => ?_) <;> simp [h] <;> (try simp at h)
      · have hgw := ics_get h
        have w1 : IntKind.wrap .i64 ((i : Int) + 1) = ((i + 1 : Nat) : Int) := wrap64 (by omega) (by omega)
        simp [hgw, g7, w1]
        (refine loopG_normal (i + 1) (by omega) (by omega) ?_ ?_ rfl rfl; rotate_left; exact .of_eq (by simp); simp; (repeat' first | exact AVsle.nil | refine AVsle.cons (AVle.any _) ?_ | refine AVsle.cons (AVle.refl _) ?_ | refine AVsle.cons AVLe.le ?_))
      · exact endA_eq rfl (by simp)
    · have g1' : (wb.l1 == -1) = false := by have : 0 ≤ wb.l1 := g1; simp; omega
      have g4' : v.l0 = wb.l1 := g4
      have g5' : v.l1 = -1 := g5
      have g6' : v.q1 = wb.q1 := g6
      have z0 := aeqJ8 wb.q1 wb.q1
      simp [g1', g4', g5', g6', g3, z0]
      refine wpc_loop0 (fun i : Nat => [(8, .any), (125, .any), (126, .any), (127, .any), (128, .any), (129, .any), (130, .any), (131, .any), (132, .any), (133, .any), (134, .any), (135, .any), (136, .any), (137, .any), (138, .any), (139, .any), (140, .any), (141, .any), (142, .any), (17, .int .i64 i)]) (fun i => wb.wher.length - i) (fun i => i ≤ wb.wher.length) 0 (by simp) ?_ ?_
      · simp
        (repeat' first | exact AVsle.nil | refine AVsle.cons (AVle.any _) ?_ | refine AVsle.cons (AVle.refl _) ?_ | refine AVsle.cons AVLe.le ?_)
      rintro i r hi
      simp
      refine condK_cases (fun h => ?_) (fun h => ?_) <;> simp [h] <;> (try simp at h)
      · have hgw := ics_get h
        have w1 : IntKind.wrap .i64 ((i : Int) + 1) = ((i + 1 : Nat) : Int) := wrap64 (by omega) (by omega)
        simp [hgw, g7, w1]
        (refine loopG_normal (i + 1) (by omega) (by omega) ?_ ?_ rfl rfl; rotate_left; exact .of_eq (by simp); simp; (repeat' first | exact AVsle.nil | refine AVsle.cons (AVle.any _) ?_ | refine AVsle.cons (AVle.refl _) ?_ | refine AVsle.cons AVLe.le ?_))
      · exact endA_eq rfl (by simp)
  · rw [if_pos h0] at r3
    simp only at r3
    apply cut_
    · intro key
      repeat' apply And.intro
      all_goals
        refine (r3.weaken ?_).use (gl := gl) hgo (by simp [hg, hgg, hg2]) ?_
        · rw [smcs_one]
          refine AVsle.cons (AVle.refl _) (AVsle.cons ?_ (AVsle.cons (AVle.refl _) .nil))
          exact sl_one hXc
        simp
        exact key
    first | refine Pure.use_le (Behind13_pure c wb [] ⟨hbs, hc⟩ (by simp)) ?_ | refine callT_le (Behind13_pure c wb [] ⟨hbs, hc⟩ (by simp)) ?_
    simp [bne_t h0, hXt]
    exact endA_eq rfl (by simp)
end Go.Proofs
