/- Walks of the reference's checks on shapes, places, parts; the first state. -/
import Derived.Test.YtnanajdckbfamaaGreatDoorC1
set_option linter.unusedVariables false
set_option linter.unusedSimpArgs false
set_option maxRecDepth 100000
namespace Go.Proofs
open Go Go.Abs
attribute [local irreducible] wpc aSeq awAny endA guardK condK CallK callT aPlan onlyL takeL aeffK takeE loopG bodyA thenA inBlockA planK roundG assignG bodyI endI YieldK unrollG
theorem polyOk_of {p : List V2} (h : rightPoly p = true) : polyOk p := of_decide_eq_true h
theorem may_of {p : List V2} (h : rightPoly p = true) (i : Nat) : mayP (pat p i) = true := may_all (by have := (polyOk_of h).1; omega) (polyOk_of h).2.1 i
theorem small_may {p : V2} (h : ((-10 ≤ p.1 ∧ p.1 ≤ 10) ∧ -10 ≤ p.2 ∧ p.2 ≤ 10)) : mayP p = true := by rw [mayP_iff]; omega
@[simp] theorem w64_m10 : IntKind.wrap .i64 (-10) = -10 := by decide
theorem shape9_pure (p : List V2) (hl : p.length ≤ 1000000) : Pure Tryz.prog 70 [pav p] (.bool (shapeB p)) := by
  refine pure_val fun σ ns _ => ?_; refine acalls_of_wpc Tryz.mixed Tryz.dr70 Tryz.func70 rfl (Tryz.fit70 _ rfl) Tryz.en70 (fun hσ => ?_); simp [Tryz.ntmps70]
  refine guardK_cases (fun h1 => ?_) (fun h1 => ?_) <;> simp [h1] <;> (try simp at h1)
  · exact endA_eq (congrArg AV.bool (decide_eq_false fun h => by have := h.1; omega).symm) (by simp)
  first | refine Pure.use_le (Right3_pure p hl) ?_ | refine callT_le (Right3_pure p hl) ?_
  simp
  refine condK_cases (fun h2 => ?_) (fun h2 => ?_) <;> simp [h2] <;> (try simp at h2)
  · exact endA_eq (congrArg AV.bool (decide_eq_false fun h => by have := h.2.1; simp [h2] at this).symm) (by simp)
  have hM := may_of h2
  refine wpc_loop0 (fun i : Nat => [(2, .any), (4, .any), (13, .any), (14, .any), (15, .any), (16, .any), (17, .any), (18, .any), (19, .any), (20, .any), (21, .any), (22, .any), (23, .any), (24, .any), (25, .any), (26, .any), (27, .any), (28, .any), (29, .any), (30, .any), (31, .any), (32, .any), (33, .any), (34, .any), (35, .any), (36, .any), (37, .any), (38, .any), (39, .any), (40, .any), (41, .any), (42, .any), (43, .any), (44, .any), (45, .any), (46, .any), (47, .any), (48, .any), (49, .any), (50, .any), (51, .any), (52, .any), (53, .any), (54, .any), (55, .any), (56, .any), (57, .any), (58, .any), (59, .any), (60, .any), (61, .any), (62, .any), (63, .any), (64, .any), (65, .any), (66, .any), (67, .any), (68, .any), (69, .any), (70, .any), (71, .any), (72, .any), (3, .int .i64 i)]) (fun i => p.length - i) (fun i => i ≤ p.length ∧ ∀ j < i, ((-10 ≤ (pat p j).1 ∧ (pat p j).1 ≤ 10) ∧ -10 ≤ (pat p j).2 ∧ (pat p j).2 ≤ 10) ∧ ∀ k < p.length, 0 ≤ sgn (cross (pat p j) (pat p (j + 1)) (pat p k))) 0 (by simp) ?_ ?_
  · simp
    (repeat' first | exact AVsle.nil | refine AVsle.cons (AVle.any _) ?_ | refine AVsle.cons (AVle.refl _) ?_ | refine AVsle.cons AVLe.le ?_)
  rintro i r ⟨hi, hm⟩
  simp
  refine condK_cases (fun h3 => ?_) (fun h3 => ?_) <;> simp [h3] <;> (try simp at h3)
  · have hg := pcs_get h3
    have w : IntKind.wrap .i64 ((i : Int) + 1) = ((i + 1 : Nat) : Int) := wrap64 (by omega) (by omega)
    simp [hg]
    refine guardK_cases (fun h4 => ?_) (fun h4 => ?_) <;> simp [h4, hg] <;> (try simp at h4)
    · exact endA_eq (congrArg AV.bool (decide_eq_false fun h => by have := (h.2.2 i h3).1; omega).symm) (by simp)
    refine guardK_cases (fun h5 => ?_) (fun h5 => ?_) <;> simp [h5, hg] <;> (try simp at h5)
    · exact endA_eq (congrArg AV.bool (decide_eq_false fun h => by have := (h.2.2 i h3).1; omega).symm) (by simp)
    refine guardK_cases (fun h6 => ?_) (fun h6 => ?_) <;> simp [h6, hg] <;> (try simp at h6)
    · exact endA_eq (congrArg AV.bool (decide_eq_false fun h => by have := (h.2.2 i h3).1; omega).symm) (by simp)
    refine condK_cases (fun h7 => ?_) (fun h7 => ?_) <;> simp [h7, hg] <;> (try simp at h7)
    · exact endA_eq (congrArg AV.bool (decide_eq_false fun h => by have := (h.2.2 i h3).1; omega).symm) (by simp)
    have hne : p ≠ [] := List.ne_nil_of_length_pos (by omega)
    have e1 : (i + 1) % p.length < p.length := Nat.mod_lt _ (by omega)
    have hg1 : (pcs p)[((((i + 1 : Nat) : Int)) % (p.length : Int)).toNat]? = some [.int .i64 (pat p (i + 1)).1, .int .i64 (pat p (i + 1)).2] := by
      rw [show ((((i + 1 : Nat) : Int)) % (p.length : Int)).toNat = (i + 1) % p.length by omega, pcs_get e1, pat_mod]
    have hz : 0 ≤ (((i + 1 : Nat) : Int)) % (p.length : Int) := by omega
    have ht : (((i + 1 : Nat) : Int)).tmod (p.length : Int) = (((i + 1 : Nat) : Int)) % (p.length : Int) := Int.tmod_eq_emod_of_nonneg (by omega)
    refine wpc_loop0 (fun k : Nat => [(2, .any), (49, .any), (50, .any), (51, .any), (52, .any), (53, .any), (54, .any), (55, .any), (56, .any), (57, .any), (58, .any), (59, .any), (60, .any), (61, .any), (62, .any), (63, .any), (64, .any), (65, .any), (66, .any), (67, .any), (68, .any), (69, .any), (70, .any), (71, .any), (72, .any), (4, .int .i64 k)]) (fun k => p.length - k) (fun k => k ≤ p.length ∧ ∀ j < k, 0 ≤ sgn (cross (pat p i) (pat p (i + 1)) (pat p j))) 0 (by simp) ?_ ?_
    · simp
      (repeat' first | exact AVsle.nil | refine AVsle.cons (AVle.any _) ?_ | refine AVsle.cons (AVle.refl _) ?_ | refine AVsle.cons AVLe.le ?_)
    rintro k r2 ⟨hk, hmk⟩
    simp
    refine condK_cases (fun h8 => ?_) (fun h8 => ?_) <;> simp [h8] <;> (try simp at h8)
    · have hgk := pcs_get h8
      have wk : IntKind.wrap .i64 ((k : Int) + 1) = ((k + 1 : Nat) : Int) := wrap64 (by omega) (by omega)
      push_cast at hg1 hz ht
      simp [hg, hgk, hne, w, ht, hz, hg1]
      first | refine Pure.use_le (Side2_pure (pat p i) (pat p (i + 1)) (pat p k) (hM _) (hM _) (hM _)) ?_ | refine callT_le (Side2_pure (pat p i) (pat p (i + 1)) (pat p k) (hM _) (hM _) (hM _)) ?_
      simp
      refine condK_cases (fun h9 => ?_) (fun h9 => ?_) <;> simp [h9] <;> (try simp at h9)
      · exact endA_eq (congrArg AV.bool (decide_eq_false fun h => by have := (h.2.2 i h3).2 k h8; omega).symm) (by simp)
      simp [wk]
      (refine loopG_normal (k + 1) (⟨by omega, next_all hmk (by omega)⟩) (by omega) ?_ ?_ rfl rfl; rotate_left; exact .of_eq (by simp); simp; (repeat' first | exact AVsle.nil | refine AVsle.cons (AVle.any _) ?_ | refine AVsle.cons (AVle.refl _) ?_ | refine AVsle.cons AVLe.le ?_))
    · obtain rfl : k = p.length := by omega
      simp [w]
      (refine loopG_normal (i + 1) (⟨by omega, next_all hm ⟨⟨⟨by omega, by omega⟩, by omega, by omega⟩, hmk⟩⟩) (by omega) ?_ ?_ rfl rfl; rotate_left; exact .of_eq (by simp); simp; (repeat' first | exact AVsle.nil | refine AVsle.cons (AVle.any _) ?_ | refine AVsle.cons (AVle.refl _) ?_ | refine AVsle.cons AVLe.le ?_))
  · obtain rfl : i = p.length := by omega
    exact endA_eq (congrArg AV.bool (decide_eq_true ⟨by omega, h2, hm⟩).symm) (by simp)
theorem take_snoc {α : Type} {l : List α} {i : Nat} (d : α) (h : i < l.length) : l.take (i + 1) = l.take i ++ [l.getD i d] := by
  rw [List.take_succ_eq_append_getElem h]; simp [List.getD, h]
theorem areas9_pure (c : Ce) (hl : c.zones.length ≤ 1000000000) : Pure Tryz.prog 44 [c.av] (.sl 1 (fcs c.zones) .unk) := by
  refine pure_val fun σ ns _ => ?_; refine acalls_of_wpc Tryz.mixed Tryz.dr44 Tryz.func44 rfl (Tryz.fit44 _ rfl) Tryz.en44 (fun hσ => ?_); simp [Tryz.ntmps44]
  refine wpc_loopGr (fun x : Nat × Option Nm => [(5, .any), (6, .any), (7, .any), (8, .any), (9, .any), (10, .any), (11, .any), (12, .any), (13, .any), (14, .any), (15, .any), (16, .any), (17, .any), (18, .any), (19, .any), (20, .any), (3, gv 1 x.2 (fcs (c.zones.take x.1))), (4, .int .i64 x.1)]) (fun x => x.2) (fun x => fcs (c.zones.take x.1)) (fun x => c.zones.length - x.1) (fun x => x.1 ≤ c.zones.length) (0, none) rfl (by simp [fcs]) (by simp) ?_ ?_
  · simp [gv_none]
    (repeat' first | exact AVsle.nil | refine AVsle.cons (AVle.any _) ?_ | refine AVsle.cons (AVle.refl _) ?_ | refine AVsle.cons AVLe.le ?_)
  rintro ⟨i, t⟩ r hi hok hfr hne
  dsimp only at hi hok hne
  simp [hne]
  refine condK_cases (fun h => ?_) (fun h => ?_) <;> simp [h] <;> (try simp at h)
  · have hg := fcs_get h
    have w : IntKind.wrap .i64 ((i : Int) + 1) = ((i + 1 : Nat) : Int) := wrap64 (by omega) (by omega)
    have hs : fcs (c.zones.take (i + 1)) = fcs (c.zones.take i) ++ [[pav (fat c.zones i)]] := by rw [take_snoc [] h]; simp [fcs, fat]
    have hle : (c.zones.take i).length = i := by simp; omega
    have hlen : (min i c.zones.length + 1) * 24 ≤ 140737488355328 := by omega
    simp [hg, hne, hok.gnil, w, hlen]
    refine loopG_normal (i + 1, some ((((ns.sub 3).sub r).sub 1).sub 8)) ⟨by simp only; omega, gok_some (by simp [Nm.under]) (hfr _ (by simp [Nm.under]))⟩ (by simp only; omega) ?_ ?_ rfl rfl
    · simp only [hs]
      simp
      (repeat' first | exact AVsle.nil | refine AVsle.cons (AVle.any _) ?_ | refine AVsle.cons (AVle.refl _) ?_ | refine AVsle.cons AVLe.le ?_)
    · ((try (dsimp only)); refine StWk.weak (StWk.grow ?_ ?_); rotate_left; (intro m hm; cases hm; simp); (repeat' first | exact StWk.refl _ | refine StWk.own_up ?_ (by first | exact hfr _ (by simp [Nm.under]) | simp [hfr]) | refine StWk.own_gdel ?_ hok.fresh | refine StWk.own_gs ?_ hok.fresh))
  · obtain rfl : i = c.zones.length := by omega
    simp [hne]
    simp at hok
    refine endA_weak hok.le (StWeak.same ?_)
    rw [restoreS_gs hok.own]
    simp
end Go.Proofs
