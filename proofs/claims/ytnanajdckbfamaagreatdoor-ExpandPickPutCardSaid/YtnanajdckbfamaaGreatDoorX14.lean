/- Expansion: the walk of the reference's judgement of states. -/
import Derived.Test.YtnanajdckbfamaaGreatDoorX13
set_option linter.unusedVariables false
set_option linter.unusedSimpArgs false
set_option maxRecDepth 100000
namespace Go.Proofs
open Go Go.Abs
attribute [local irreducible] wpc aSeq awAny endA guardK condK CallK callT aPlan onlyL takeL aeffK takeE loopG bodyA thenA inBlockA planK roundG assignG bodyI endI YieldK unrollG endP
def armOk (w : Ws) (c : Ce) (h : Int) (f : Bool) : Prop := f = true ∧ (-1 ≤ h ∧ h < c.parts.length) ∧ (0 ≤ h → iat w.wher h.toNat = -1)
theorem stOk_iff (w : Ws) (c : Ce) : StOk w c ↔ w.wher.length = c.parts.length ∧ (w.l0 = w.l1 → w.l0 = -1) ∧ armOk w c w.l0 (fits c.a0 w.q0) ∧ armOk w c w.l1 (fits c.a1 w.q1) ∧
    ∀ i < w.wher.length, (-1 ≤ iat w.wher i ∧ iat w.wher i < c.places.length) ∧ ∀ k < i, iat w.wher k = iat w.wher i → iat w.wher i = -1 :=
  ⟨fun ⟨a, b, c, d, e, f, g, h, i, j⟩ => ⟨a, b, ⟨c, e, g⟩, ⟨d, f, h⟩, fun k hk => ⟨i k hk, j k hk⟩⟩,
   fun ⟨a, b, ⟨c, e, g⟩, ⟨d, f, h⟩, k⟩ => ⟨a, b, c, d, e, f, g, h, fun i hi => (k i hi).1, fun i hi => (k i hi).2⟩⟩
instance (w : Ws) (c : Ce) (h : Int) (f : Bool) : Decidable (armOk w c h f) := by unfold armOk; exact inferInstance
instance (w : Ws) (c : Ce) : Decidable (StOk w c) := decidable_of_iff _ (stOk_iff w c).symm
def stOk (w : Ws) (c : Ce) : Bool := decide (StOk w c)
set_option maxHeartbeats 4000000 in
theorem Right13_pure (c : Ce) (w : Ws) (hc : RightC c) : Pure Tryz.prog 19 [c.av, w.av] (.bool (stOk w c)) := by
  have hp8 := hc.parts8
  refine pure_val fun σ ns _ => ?_; refine acalls_of_wpc Tryz.mixed Tryz.dr19 Tryz.func19 rfl (Tryz.fit19 _ rfl) Tryz.en19 (fun hσ => ?_); simp [Tryz.ntmps19]
  (repeat' (first | (refine guardK_cases (fun h => ?_) (fun h => ?_) <;> simp [h]) | (refine condK_cases (fun h => ?_) (fun h => ?_) <;> simp [h])))
  · exact endA_eq (congrArg AV.bool (decide_eq_false fun h => by simp [h.len] at *).symm) (by simp)
  · exact endA_eq (congrArg AV.bool (decide_eq_false fun h => by have := h.diff; simp at *; omega).symm) (by simp)
  all_goals
    have hlen : w.wher.length = c.parts.length := by simp at *; omega
    have hd : w.l0 = w.l1 → w.l0 = -1 := fun e => by simp_all
    refine wpc_loop0 (fun i : Nat => [(4, .any), (6, .any), (31, .any), (32, .any), (33, .any), (34, .any), (35, .any), (36, .any), (37, .any), (38, .any), (39, .any), (40, .any), (41, .any), (42, .any), (43, .any), (44, .any), (45, .any), (46, .any), (47, .any), (48, .any), (49, .any), (50, .any), (51, .any), (52, .any), (53, .any), (54, .any), (55, .any), (56, .any), (57, .any), (58, .any), (59, .any), (60, .any), (61, .any), (62, .any), (63, .any), (64, .any), (65, .any), (66, .any), (67, .any), (68, .any), (69, .any), (70, .any), (71, .any), (5, .int .i64 i)]) (fun i => 2 - i) (fun i => i ≤ 2 ∧ (1 ≤ i → armOk w c w.l0 (fits c.a0 w.q0)) ∧ (2 ≤ i → armOk w c w.l1 (fits c.a1 w.q1))) 0 ⟨by omega, by omega, by omega⟩ ?_ ?_
    · simp
      (repeat' first | exact AVsle.nil | refine AVsle.cons (AVle.any _) ?_ | refine AVsle.cons (AVle.refl _) ?_ | refine AVsle.cons AVLe.le ?_)
    rintro i r ⟨hi, ha, hb⟩
    simp
    have : i = 0 ∨ i = 1 ∨ i = 2 := by omega
    rcases this with rfl | rfl | rfl <;> simp
    · first | refine Pure.use_le (rFits_pure c.a0 w.q0) ?_ | refine callT_le (rFits_pure c.a0 w.q0) ?_
      simp
      refine guardK_cases (fun f1 => ?_) (fun f1 => ?_) <;> simp [f1] <;> (try simp at f1)
      · exact endA_eq (congrArg AV.bool (decide_eq_false fun h => by have := h.fit0; rw [f1] at this; cases this).symm) (by simp)
      refine guardK_cases (fun f2 => ?_) (fun f2 => ?_) <;> simp [f2] <;> (try simp at f2)
      · exact endA_eq (congrArg AV.bool (decide_eq_false fun h => by have := h.h0; omega).symm) (by simp)
      refine guardK_cases (fun f3 => ?_) (fun f3 => ?_) <;> simp [f3] <;> (try simp at f3)
      · exact endA_eq (congrArg AV.bool (decide_eq_false fun h => by have := h.h0; omega).symm) (by simp)
      refine guardK_cases (fun f4 => ?_) (fun f4 => ?_) <;> simp [f4] <;> (try simp at f4)
      · have hg := ics_get (l := w.wher) (i := w.l0.toNat) (by omega)
        simp [hg, f4]
        refine condK_cases (fun f5 => ?_) (fun f5 => ?_) <;> simp [f5] <;> (try simp at f5)
        · exact endA_eq (congrArg AV.bool (decide_eq_false fun h => by exact f5 (h.w0 f4)).symm) (by simp)
        · (refine loopG_normal (1) (⟨by omega, fun _ => ⟨f1, ⟨f2, f3⟩, fun x => by first | exact f5 | omega⟩, by omega⟩) (by omega) ?_ ?_ rfl rfl; rotate_left; exact .of_eq (by simp); simp; (repeat' first | exact AVsle.nil | refine AVsle.cons (AVle.any _) ?_ | refine AVsle.cons (AVle.refl _) ?_ | refine AVsle.cons AVLe.le ?_))
      · (refine loopG_normal (1) (⟨by omega, fun _ => ⟨f1, ⟨f2, f3⟩, fun x => by first | exact f5 | omega⟩, by omega⟩) (by omega) ?_ ?_ rfl rfl; rotate_left; exact .of_eq (by simp); simp; (repeat' first | exact AVsle.nil | refine AVsle.cons (AVle.any _) ?_ | refine AVsle.cons (AVle.refl _) ?_ | refine AVsle.cons AVLe.le ?_))
    · first | refine Pure.use_le (rFits_pure c.a1 w.q1) ?_ | refine callT_le (rFits_pure c.a1 w.q1) ?_
      simp
      refine guardK_cases (fun f1 => ?_) (fun f1 => ?_) <;> simp [f1] <;> (try simp at f1)
      · exact endA_eq (congrArg AV.bool (decide_eq_false fun h => by have := h.fit1; rw [f1] at this; cases this).symm) (by simp)
      refine guardK_cases (fun f2 => ?_) (fun f2 => ?_) <;> simp [f2] <;> (try simp at f2)
      · exact endA_eq (congrArg AV.bool (decide_eq_false fun h => by have := h.h1; omega).symm) (by simp)
      refine guardK_cases (fun f3 => ?_) (fun f3 => ?_) <;> simp [f3] <;> (try simp at f3)
      · exact endA_eq (congrArg AV.bool (decide_eq_false fun h => by have := h.h1; omega).symm) (by simp)
      refine guardK_cases (fun f4 => ?_) (fun f4 => ?_) <;> simp [f4] <;> (try simp at f4)
      · have hg := ics_get (l := w.wher) (i := w.l1.toNat) (by omega)
        simp [hg, f4]
        refine condK_cases (fun f5 => ?_) (fun f5 => ?_) <;> simp [f5] <;> (try simp at f5)
        · exact endA_eq (congrArg AV.bool (decide_eq_false fun h => by exact f5 (h.w1 f4)).symm) (by simp)
        · (refine loopG_normal (2) (⟨by omega, fun _ => ha (by omega), fun _ => ⟨f1, ⟨f2, f3⟩, fun x => by first | exact f5 | omega⟩⟩) (by omega) ?_ ?_ rfl rfl; rotate_left; exact .of_eq (by simp); simp; (repeat' first | exact AVsle.nil | refine AVsle.cons (AVle.any _) ?_ | refine AVsle.cons (AVle.refl _) ?_ | refine AVsle.cons AVLe.le ?_))
      · (refine loopG_normal (2) (⟨by omega, fun _ => ha (by omega), fun _ => ⟨f1, ⟨f2, f3⟩, fun x => by first | exact f5 | omega⟩⟩) (by omega) ?_ ?_ rfl rfl; rotate_left; exact .of_eq (by simp); simp; (repeat' first | exact AVsle.nil | refine AVsle.cons (AVle.any _) ?_ | refine AVsle.cons (AVle.refl _) ?_ | refine AVsle.cons AVLe.le ?_))
    · have ha := ha (by omega)
      have hb := hb (by omega)
      refine wpc_loop0 (fun i : Nat => [(4, .any), (8, .any), (72, .any), (73, .any), (74, .any), (75, .any), (76, .any), (77, .any), (78, .any), (79, .any), (80, .any), (81, .any), (82, .any), (83, .any), (84, .any), (85, .any), (86, .any), (87, .any), (88, .any), (89, .any), (90, .any), (91, .any), (92, .any), (93, .any), (94, .any), (95, .any), (96, .any), (97, .any), (98, .any), (99, .any), (100, .any), (101, .any), (102, .any), (103, .any), (104, .any), (105, .any), (106, .any), (107, .any), (108, .any), (109, .any), (110, .any), (111, .any), (112, .any), (113, .any), (114, .any), (115, .any), (116, .any), (117, .any), (118, .any), (119, .any), (7, .int .i64 i)]) (fun i => w.wher.length - i) (fun i => i ≤ w.wher.length ∧ ∀ j < i, (-1 ≤ iat w.wher j ∧ iat w.wher j < c.places.length) ∧ ∀ k < j, iat w.wher k = iat w.wher j → iat w.wher j = -1) 0 ⟨by omega, by omega⟩ ?_ ?_
      · simp
        (repeat' first | exact AVsle.nil | refine AVsle.cons (AVle.any _) ?_ | refine AVsle.cons (AVle.refl _) ?_ | refine AVsle.cons AVLe.le ?_)
      rintro i r ⟨hi, hm⟩
      simp
      refine condK_cases (fun f1 => ?_) (fun f1 => ?_) <;> simp [f1] <;> (try simp at f1)
      · have hg := ics_get f1
        simp [hg]
        refine guardK_cases (fun f2 => ?_) (fun f2 => ?_) <;> simp [f2, hg] <;> (try simp at f2)
        · exact endA_eq (congrArg AV.bool (decide_eq_false fun h => by have := (h.vals i f1); omega).symm) (by simp)
        refine condK_cases (fun f3 => ?_) (fun f3 => ?_) <;> simp [f3] <;> (try simp at f3)
        · exact endA_eq (congrArg AV.bool (decide_eq_false fun h => by have := (h.vals i f1); omega).symm) (by simp)
        refine wpc_loop0 (fun k : Nat => [(4, .any), (96, .any), (97, .any), (98, .any), (99, .any), (100, .any), (101, .any), (102, .any), (103, .any), (104, .any), (105, .any), (106, .any), (107, .any), (108, .any), (109, .any), (110, .any), (111, .any), (112, .any), (113, .any), (114, .any), (115, .any), (116, .any), (117, .any), (118, .any), (119, .any), (8, .int .i64 k)]) (fun k => i - k) (fun k => k ≤ i ∧ ∀ j < k, iat w.wher j = iat w.wher i → iat w.wher i = -1) 0 ⟨by omega, by omega⟩ ?_ ?_
        · simp
          (repeat' first | exact AVsle.nil | refine AVsle.cons (AVle.any _) ?_ | refine AVsle.cons (AVle.refl _) ?_ | refine AVsle.cons AVLe.le ?_)
        rintro k r ⟨hk, hn⟩
        simp
        refine condK_cases (fun f4 => ?_) (fun f4 => ?_) <;> simp [f4] <;> (try simp at f4)
        · have hg2 := ics_get (l := w.wher) (i := k) (by omega)
          have w1 : IntKind.wrap .i64 ((k : Int) + 1) = ((k + 1 : Nat) : Int) := wrap64 (by omega) (by omega)
          simp [hg, hg2]
          refine guardK_cases (fun f5 => ?_) (fun f5 => ?_) <;> simp [f5, hg] <;> (try simp at f5)
          · refine condK_cases (fun f6 => ?_) (fun f6 => ?_) <;> simp [f6] <;> (try simp at f6)
            · exact endA_eq (congrArg AV.bool (decide_eq_false fun h => by exact f6 (h.uniq i f1 k f4 f5)).symm) (by simp)
            · simp [w1]
              (refine loopG_normal (k + 1) (⟨by omega, next_all hn fun _ => f6⟩) (by omega) ?_ ?_ rfl rfl; rotate_left; exact .of_eq (by simp); simp; (repeat' first | exact AVsle.nil | refine AVsle.cons (AVle.any _) ?_ | refine AVsle.cons (AVle.refl _) ?_ | refine AVsle.cons AVLe.le ?_))
          · simp [w1]
            (refine loopG_normal (k + 1) (⟨by omega, next_all hn fun x => absurd x f5⟩) (by omega) ?_ ?_ rfl rfl; rotate_left; exact .of_eq (by simp); simp; (repeat' first | exact AVsle.nil | refine AVsle.cons (AVle.any _) ?_ | refine AVsle.cons (AVle.refl _) ?_ | refine AVsle.cons AVLe.le ?_))
        · obtain rfl : k = i := by omega
          have w1 : IntKind.wrap .i64 ((k : Int) + 1) = ((k + 1 : Nat) : Int) := wrap64 (by omega) (by omega)
          simp [w1]
          (refine loopG_normal (k + 1) (⟨by omega, next_all hm ⟨⟨f2, f3⟩, hn⟩⟩) (by omega) ?_ ?_ rfl rfl; rotate_left; exact .of_eq (by simp); simp; (repeat' first | exact AVsle.nil | refine AVsle.cons (AVle.any _) ?_ | refine AVsle.cons (AVle.refl _) ?_ | refine AVsle.cons AVLe.le ?_))
      · obtain rfl : i = w.wher.length := by omega
        have : StOk w c := (stOk_iff w c).2 ⟨hlen, hd, ha, hb, hm⟩
        exact endA_eq (by simp [stOk, this]) (by simp)
end Go.Proofs
