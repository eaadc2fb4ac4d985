/- Expansion: the walk of ExpandPickPut. -/
import Derived.Test.YtnanajdckbfamaaGreatDoorX22
import Derived.Test.YtnanajdckbfamaaGreatDoorMG
set_option linter.unusedVariables false
set_option linter.unusedSimpArgs false
set_option maxRecDepth 100000
namespace Go.Proofs
open Go Go.Abs
attribute [local irreducible] wpc aSeq awAny endA guardK condK CallK callT aPlan onlyL takeL aeffK takeE loopG bodyA thenA inBlockA planK roundG assignG bodyI endI YieldK unrollG endP
theorem sl_one {k : Nat} {e e' : List AV} {c : Cap} (h : AVsle e e') : AVle (.sl k [e] c) (.sl k [e'] .unk) := fun ρ M x hx => AVle.unk _ _ _ (AVle.sl_last (pre := []) h _ _ _ hx)
theorem great13_right {c : Ce} {l : List Wd} (h : great13 c l = false) : RightC c ∧ l.length ≤ 40 := by
  unfold great13 at h
  simp at h
  exact ⟨of_decide_eq_true h.1.2, h.2⟩
set_option maxHeartbeats 4000000 in
theorem pickput_pure (c : Ce) (l : List Wd) (hok : ∀ x ∈ l, WdOk x) (x : Wd) (hx : WdOk x) (p : Nat) (hp : p < 256) : PureG 7 [c.av, .sl 11 (wdcs l) .unk, x.av, .int .u8 p] (.bool true) := by
  refine pureG_val fun σ ns gl go _ hgo hg => ?_
  refine acalls_of_wpc Tryz.mixed Tryz.dr7 Tryz.func7 rfl (Tryz.fit7 _ rfl) Tryz.en7 (fun hσ => ?_); simp [Tryz.ntmps7]
  have hgg := ne_own hσ hg
  have hg2 := own_ne hσ hg
  refine head13_pure.use (gl := gl) hgo (by simp [hg, hgg, hg2]) ?_
  simp
  first | refine Pure.use_le (Great13_pure c l) ?_ | refine callT_le (Great13_pure c l) ?_
  simp
  refine guardK_cases (fun h1 => ?_) (fun h1 => ?_) <;> simp [h1]
  · exact endA_eq rfl (by simp)
  refine guardK_cases (fun h2 => ?_) (fun h2 => ?_) <;> simp [h2] <;> (try simp at h2)
  · exact endA_eq rfl (by simp)
  refine condK_cases (fun h3 => ?_) (fun h3 => ?_) <;> simp [h3] <;> (try simp at h3)
  · exact endA_eq rfl (by simp)
  obtain ⟨hc, h40⟩ := great13_right h1
  have hpre := first_pre hc
  have hpl : c.parts.length ≤ 1000000 := by have := hc.parts8; omega
  have hl : l.length ≤ 1000000000 := by omega
  have hin := smsOf_in hc l
  have hsl := smsOf_len c l
  have hall := playT_all (xs := smsOf c l) (l := []) hpre.1 (by simp)
  have r2 := Steps13_pure c (smsOf c l) (first c) hin (by omega) hpre
  generalize playT c (smsOf c l) (first c) [] = pr at *
  obtain ⟨⟨w', ss⟩, e, k⟩ := pr
  dsimp only at hall r2
  first | refine Pure.use_le (Stmts_pure c hc l hl hok) ?_ | refine callT_le (Stmts_pure c hc l hl hok) ?_
  simp
  first | refine Pure.use_le (First9_pure c hpl) ?_ | refine callT_le (First9_pure c hpl) ?_
  simp
  first | refine Pure.use_le (r2) ?_ | refine callT_le (r2) ?_
  simp
  first | refine Pure.use_le (First9_pure c hpl) ?_ | refine callT_le (First9_pure c hpl) ?_
  simp
  first | refine Pure.use_le (Behind13_pure c (first c) ss hpre (by omega)) ?_ | refine callT_le (Behind13_pure c (first c) ss hpre (by omega)) ?_
  have hbs := behind_st (l := ss) hpre.1
  generalize behind c (first c) ss = wb at *
  have hpc : c.places.length ≤ 16 := hc.places16
  have hp0 : 0 < c.places.length := by cases hh : c.places with | nil => simp [hh] at h3 | cons x xs => simp
  have hq0 : 0 < c.parts.length := by cases hh : c.parts with | nil => simp [hh] at h2 | cons x xs => simp
  have v2 : IntKind.wrap .i64 (p : Int) = (p : Int) := wrap_nat (by omega)
  have hpn : ¬ c.places = [] := h3
  have hqn : ¬ c.parts = [] := h2
  have v5 := tmodN p c.places.length
  have v6 := tmodN x.part c.parts.length
  have v7 : (x.arm : Int).tmod 2 = ((x.arm % 2 : Nat) : Int) := tmodN x.arm 2
  have v8 : IntKind.wrap .i64 (x.part : Int) = (x.part : Int) := wrap_nat (by have := hx.h; omega)
  have v9 : IntKind.wrap .i64 (x.arm : Int) = (x.arm : Int) := wrap_nat (by have := hx.h; omega)
  have hpi : p % c.places.length < c.places.length := Nat.mod_lt _ hp0
  have hqi : x.part % c.parts.length < c.parts.length := Nat.mod_lt _ hq0
  obtain ⟨pl, hpl2⟩ : ∃ j, p % c.places.length = j := ⟨_, rfl⟩
  obtain ⟨pt, hpt⟩ : ∃ j, x.part % c.parts.length = j := ⟨_, rfl⟩
  obtain ⟨ar, har⟩ : ∃ j, x.arm % 2 = j := ⟨_, rfl⟩
  have harm : ar = 0 ∨ ar = 1 := by omega
  rw [hpl2] at v5 hpi
  rw [hpt] at v6 hqi
  rw [har] at v7
  have hgp := plcs_get hpi
  have hgq := ptcs_get hqi
  simp [v2, v5, v6, v7, v8, v9, hgp, hgq, hpn, hqn]
  generalize hX : (⟨3, (ar : Int), (ptat c.parts pt).name, ⟨#[]⟩, 0, j0', j0', 0⟩ : Sb) = X
  have hXk : X.kind = 3 := by rw [← hX]
  have hXa : X.arm = ar := by rw [← hX]
  have hXp : X.part = (ptat c.parts pt).name := by rw [← hX]
  have hXt : X.at' = 0 := by rw [← hX]
  have hXn : X.n = 0 := by rw [← hX]
  have hXc : AVsle [.int .i64 3, .int .i64 ar, .str (ptat c.parts pt).name, .str ⟨#[]⟩, .int .i64 0, .int .i64 0, .int .i64 0, .int .i64 0, .int .i64 0, .int .i64 0, .int .i64 0, .sl 0 [] .nil, .int .i64 0] (X.cells (.sl 13 (sbcs []) .unk)) := by rw [← hX, sbcs_nil]; (repeat' first | exact AVsle.nil | refine AVsle.cons (AVle.any _) ?_ | refine AVsle.cons (AVle.refl _) ?_ | refine AVsle.cons AVLe.le ?_)
  generalize hZ : (⟨4, (ar : Int), ⟨#[]⟩, (plat c.places pl).name, 0, j0', j0', 0⟩ : Sb) = Z
  have hZk : Z.kind = 4 := by rw [← hZ]
  have hZa : Z.arm = ar := by rw [← hZ]
  have hZp : Z.place = (plat c.places pl).name := by rw [← hZ]
  have hZn : Z.n = 0 := by rw [← hZ]
  have hZc : AVsle [.int .i64 4, .int .i64 ar, .str ⟨#[]⟩, .str (plat c.places pl).name, .int .i64 0, .int .i64 0, .int .i64 0, .int .i64 0, .int .i64 0, .int .i64 0, .int .i64 0, .sl 0 [] .nil, .int .i64 0] (Z.cells (.sl 13 (sbcs []) .unk)) := by rw [← hZ, sbcs_nil]; (repeat' first | exact AVsle.nil | refine AVsle.cons (AVle.any _) ?_ | refine AVsle.cons (AVle.refl _) ?_ | refine AVsle.cons AVLe.le ?_)
  generalize hV : (⟨7, 0, (ptat c.parts pt).name, (plat c.places pl).name, 0, j0', j0', 0⟩ : Sb) = V
  have hVk : V.kind = 7 := by rw [← hV]
  have hVp : V.part = (ptat c.parts pt).name := by rw [← hV]
  have hVa : V.place = (plat c.places pl).name := by rw [← hV]
  have hVc : AVsle [.int .i64 7, .int .i64 0, .str (ptat c.parts pt).name, .str (plat c.places pl).name, .int .i64 0, .int .i64 0, .int .i64 0, .int .i64 0, .int .i64 0, .int .i64 0, .int .i64 0, .sl 13 [X.cells (.sl 13 [] .unk)] .unk, .int .i64 0] (V.cells (.sl 13 (sbcs [X]) .unk)) := by rw [← hV, sbcs_one]; (repeat' first | exact AVsle.nil | refine AVsle.cons (AVle.any _) ?_ | refine AVsle.cons (AVle.refl _) ?_ | refine AVsle.cons AVLe.le ?_)
  have hpx : partIx c (ptat c.parts pt).name = pt := partIx_self hc hqi
  have hlx : placeIx c (plat c.places pl).name = pl := placeIx_self hc hpi
  have hXa' : X.arm = 0 ∨ X.arm = 1 := by omega
  have hZa' : Z.arm = 0 ∨ Z.arm = 1 := by omega
  have hXi : partIx c X.part = pt := by rw [hXp]; exact hpx
  have hZi : placeIx c Z.place = pl := by rw [hZp]; exact hlx
  have hX3 : SbIn X c := ⟨⟨by omega, hXa', fun e => by omega, fun e => by omega⟩, fun e => by omega, fun e => by omega, by omega⟩
  have hZ3 : SbIn Z c := ⟨⟨by omega, hZa', fun e => by omega, fun e => by omega⟩, fun e => by omega, fun e => by omega, by omega⟩
  have r3 := steps_pureG c [(X, [])] wb (fun x hx => by simp at hx; subst hx; exact ⟨fun _ => hX3.ok, fun e => by simp at e; omega, fun e => by simp, by simp⟩) (by simp) ⟨hbs, hc⟩
  have r4 := steps_pureG c [(V, [X])] wb (fun x hx => by simp at hx; subst hx; exact ⟨fun e => absurd hVk e, fun e => by rw [hVp, hpx]; omega, fun e k hk => by simp at hk; subst hk; exact hX3.ok, by simp⟩) (by simp) ⟨hbs, hc⟩
  rw [playT_when hVk (by omega), hVp, hVa, hpx, hlx] at r4
  rw [playT_one hbs hc hX3 (by omega), show plainR X wb c = pickR X wb c by simp [plainR, hXk]] at r3 r4
  have hps := pick_behind hbs hXa' (by omega)
  have hlen := plainR_len (x := X) (w := wb) (c := c)
  rw [show plainR X wb c = pickR X wb c by simp [plainR, hXk]] at hlen
  generalize pickR X wb c = pr at *
  obtain ⟨s3, e3⟩ := pr
  dsimp only at hps r3 r4 hlen
  simp only [Int.toNat_natCast] at r4
  have hgw := ics_get (l := wb.wher) (i := pt) (by rw [hbs.len]; exact hqi)
  rw [hXi] at hps
  simp only [Int.toNat_natCast] at hps
  refine (r3.weaken ?_).use (gl := gl) hgo (by simp [hg, hgg, hg2]) ?_
  · rw [smcs_one]
    refine AVsle.cons (AVle.refl _) (AVsle.cons ?_ (AVsle.cons (AVle.refl _) .nil))
    exact sl_one hXc
  simp [hgq, hgp]
  have hgz : AVsle [c.av, .sl 13 [[.int .i64 7, .int .i64 0, .str (ptat c.parts pt).name, .str (plat c.places pl).name, .int .i64 0, .int .i64 0, .int .i64 0, .int .i64 0, .int .i64 0, .int .i64 0, .int .i64 0,
      .sl 13 [[.int .i64 3, .int .i64 ar, .str (ptat c.parts pt).name, .str ⟨#[]⟩, .int .i64 0, .int .i64 0, .int .i64 0, .int .i64 0, .int .i64 0, .int .i64 0, .int .i64 0, .sl 0 [] .nil, .int .i64 0]] .exact, .int .i64 0]] .exact, wb.av] [c.av, .sl 13 (smcs [(V, [X])]) .unk, wb.av] := by
    rw [smcs_one]
    refine AVsle.cons (AVle.refl _) (AVsle.cons (sl_one ?_) (AVsle.cons (AVle.refl _) .nil))
    simp only [← hV, sbcs_one]
    have h1 := sl_one (k := 13) (c := .exact) hXc
    rw [sbcs_nil] at h1
    repeat' first | exact AVsle.nil | refine AVsle.cons h1 ?_ | refine AVsle.cons (AVle.refl _) ?_
  have r4' : PureG 12 [c.av, .sl 13 (smcs [(V, [X])]) .unk, wb.av] (.tup [.sl 11 (spcs (if iat wb.wher pt = pl then (if ¬ e3 = 0 then [] else s3) else [])) .unk, .agg [.int .i64 (if iat wb.wher pt = pl then e3 else 0), .int .i64 0]]) := by
    by_cases h1 : iat wb.wher pt = pl
    · by_cases h2 : e3 = 0
      · simpa [h1, h2] using r4
      · simpa [h1, h2, hXt] using r4
    · simpa [h1] using r4
  apply cut_
  · intro key
    repeat' apply And.intro
    all_goals
      refine (r4'.weaken hgz).use (gl := gl) hgo (by simp [hg, hgg, hg2]) ?_
      simp
      exact key
  simp [hgw]
  by_cases he : e3 = 0
  · by_cases hW : iat wb.wher pt = pl
    case' pos =>
      have hWb : (iat wb.wher pt == (pl : Int)) = true := by simp [hW]
      have hWn : (iat wb.wher pt != (pl : Int)) = false := by simp [hW]
      simp [hgw, hWb, hWn, hW, he]
      first | refine Pure.use_le (SameSteps13_pure s3 s3 (by omega)) ?_ | refine callT_le (SameSteps13_pure s3 s3 (by omega)) ?_
      simp [hgw, hWb, hWn, hW, he]
    case' neg =>
      have hWb : (iat wb.wher pt == (pl : Int)) = false := by simp [hW]
      have hWn : (iat wb.wher pt != (pl : Int)) = true := by simp [hW]
      simp [hgw, hWb, hWn, hW, he]
    all_goals
      first | refine Pure.use_le (Behind13_pure c wb s3 ⟨hbs, hc⟩ (by omega)) ?_ | refine callT_le (Behind13_pure c wb s3 ⟨hbs, hc⟩ (by omega)) ?_
      have hvs := behind_st (l := s3) hbs
      obtain ⟨q1, q2⟩ := hps he
      rw [hXa] at q1
      generalize behind c wb s3 = v at *
      have r5 := steps_pureG c [(Z, [])] v (fun x hx => by simp at hx; subst hx; exact ⟨fun _ => hZ3.ok, fun e => by simp at e; omega, fun e => by simp, by simp⟩) (by simp) ⟨hvs, hc⟩
      rw [playT_one hvs hc hZ3 (by omega), show plainR Z v c = putR Z v c by simp [plainR, hZk]] at r5
      have hpz := put_start hvs hZa' (by omega) (.inl hZk)
      have hlz := plainR_len (x := Z) (w := v) (c := c)
      rw [show plainR Z v c = putR Z v c by simp [plainR, hZk]] at hlz
      generalize putR Z v c = pz at *
      obtain ⟨s5, e5⟩ := pz
      dsimp only at hpz r5 hlz
      have hvl : v.wher.length = c.parts.length := hvs.len
      have hgv := ics_get (l := v.wher) (i := pt) (by omega)
      simp [hgp, hgq]
      refine (r5.weaken ?_).use (gl := gl) hgo (by simp [hg, hgg, hg2]) ?_
      · rw [smcs_one]
        refine AVsle.cons (AVle.refl _) (AVsle.cons ?_ (AVsle.cons (AVle.refl _) .nil))
        exact sl_one hZc
      rw [hZa] at hpz
      by_cases h5 : e5 = 0
      · obtain ⟨g1, g2, -⟩ := hpz h5
        obtain ⟨g3, g4, g5⟩ := g2 hZk
        simp [h5]
        first | refine Pure.use_le (Behind13_pure c v s5 ⟨hvs, hc⟩ (by omega)) ?_ | refine callT_le (Behind13_pure c v s5 ⟨hvs, hc⟩ (by omega)) ?_
        have hus := behind_st (l := s5) hvs
        generalize behind c v s5 = u at *
        have hgu := ics_get (l := u.wher) (i := pt) (by have := hus.len; omega)
        rw [q1, hZi] at g5
        simp only [Int.toNat_natCast] at g5
        rcases harm with rfl | rfl
        · have q1' : v.l0 = pt := q1
          have g4' : u.l0 = -1 := g4
          simp [q1', g4', hgv, hgu, q2, g5]
          exact endA_eq rfl (by simp)
        · have q1' : v.l1 = pt := q1
          have g4' : u.l1 = -1 := g4
          simp [q1', g4', hgv, hgu, q2, g5]
          exact endA_eq rfl (by simp)
      · simp [h5]
        first | refine Pure.use_le (Behind13_pure c v [] ⟨hvs, hc⟩ (by simp)) ?_ | refine callT_le (Behind13_pure c v [] ⟨hvs, hc⟩ (by simp)) ?_
        rcases harm with rfl | rfl
        · have q1' : v.l0 = pt := q1
          simp [q1', hgv, q2, bne_t h5]
          exact endA_eq rfl (by simp)
        · have q1' : v.l1 = pt := q1
          simp [q1', hgv, q2, bne_t h5]
          exact endA_eq rfl (by simp)
  · by_cases hW : iat wb.wher pt = pl
    · have hWb : (iat wb.wher pt == (pl : Int)) = true := by simp [hW]
      have hWn : (iat wb.wher pt != (pl : Int)) = false := by simp [hW]
      simp [hgw, hWb, hWn, hW, he, hXt]
      first | refine Pure.use_le (SameSteps13_pure [] [] (by simp)) ?_ | refine callT_le (SameSteps13_pure [] [] (by simp)) ?_
      simp [hgw, hWb, hWn, hW, he, hXt, bne_t he]
      exact endA_eq rfl (by simp)
    · have hWb : (iat wb.wher pt == (pl : Int)) = false := by simp [hW]
      have hWn : (iat wb.wher pt != (pl : Int)) = true := by simp [hW]
      simp [hgw, hWb, hWn, hW, he, hXt, bne_t he]
      exact endA_eq rfl (by simp)
end Go.Proofs
