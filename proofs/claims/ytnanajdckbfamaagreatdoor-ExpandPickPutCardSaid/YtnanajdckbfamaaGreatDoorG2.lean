/- Walks of the reference's polygons: corners, area, validity. -/
import Derived.Test.YtnanajdckbfamaaGreatDoorG1
set_option linter.unusedVariables false
set_option linter.unusedSimpArgs false
set_option maxRecDepth 100000
namespace Go.Proofs
open Go Go.Abs
attribute [local irreducible] wpc aSeq awAny endA guardK condK CallK callT aPlan onlyL takeL aeffK takeE loopG bodyA thenA inBlockA planK roundG assignG bodyI endI YieldK unrollG
/-- A polygon: its corners' cells. -/
def pcs (p : List V2) : List (List AV) := p.map fun v => [.int .i64 v.1, .int .i64 v.2]
abbrev pav (p : List V2) : AV := .sl 2 (pcs p) .unk
@[simp] theorem pcs_length (p : List V2) : (pcs p).length = p.length := by simp [pcs]
instance AVLe.succ2 {k : IntKind} {i : Nat} : AVLe (.int k ((i : Int) + 2)) (.int k ((i + 2 : Nat) : Int)) := ⟨.refl _⟩
def pat (p : List V2) (i : Nat) : V2 := p.getD (i % p.length) (0, 0)
theorem pat_lt {p : List V2} {i : Nat} (h : i < p.length) : pat p i = p.getD i (0, 0) := by unfold pat; rw [Nat.mod_eq_of_lt h]
theorem pcs_get {p : List V2} {i : Nat} (h : i < p.length) : (pcs p)[i]? = some [.int .i64 (pat p i).1, .int .i64 (pat p i).2] := by
  rw [pat_lt h]; simp [pcs, h]
theorem tmod_nat (i n : Nat) : (i : Int).tmod (n : Int) = ((i % n : Nat) : Int) := by
  rw [Int.tmod_eq_emod_of_nonneg (by omega)]; omega
theorem pat_mod (p : List V2) (i : Nat) : pat p (i % p.length) = pat p i := by simp [pat]
theorem At3_pure (p : List V2) (i : Nat) (h : 0 < p.length) (hi : i ≤ 1000) : Pure Tryz.prog 100 [pav p, .int .i64 i] (.agg [.int .i64 (pat p i).1, .int .i64 (pat p i).2]) := by
  have hm := Nat.mod_lt i h
  have hg := pcs_get hm
  rw [pat_mod] at hg
  have h0 : 0 ≤ (i : Int) % (p.length : Int) := by omega
  have ht : (i : Int).tmod (p.length : Int) = (i : Int) % (p.length : Int) := Int.tmod_eq_emod_of_nonneg (by omega)
  have hg : (pcs p)[((i : Int) % (p.length : Int)).toNat]? = some [.int .i64 (pat p i).1, .int .i64 (pat p i).2] := by
    rw [show ((i : Int) % (p.length : Int)).toNat = i % p.length by omega]; exact hg
  have hne : p ≠ [] := List.ne_nil_of_length_pos h
  refine pure_val fun σ ns _ => ?_; refine acalls_of_wpc Tryz.mixed Tryz.dr100 Tryz.func100 rfl (Tryz.fit100 _ rfl) Tryz.en100 (fun hσ => ?_); simp [Tryz.ntmps100]
  simp [hne, ht, h0, hg]
  exact endA_eq (by simp) (by simp)
def term2 (p : List V2) (i : Nat) : Int := (pat p i).1 * (pat p (i + 1)).2 - (pat p i).2 * (pat p (i + 1)).1
def area2N (p : List V2) : Nat → Int
  | 0 => 0
  | i + 1 => area2N p i + term2 p i
def area2 (p : List V2) : Int := area2N p p.length
theorem prodP_bd {a b : V2} (ha : mayP a = true) (hb : mayP b = true) : (-193072360000000000 ≤ a.1 * b.2 ∧ a.1 * b.2 ≤ 193072360000000000) ∧ (-193072360000000000 ≤ a.2 * b.1 ∧ a.2 * b.1 ≤ 193072360000000000) := by
  rw [mayP_iff] at ha hb
  exact ⟨prod_bd 439400000 439400000 (by omega) (by omega), prod_bd 439400000 439400000 (by omega) (by omega)⟩
theorem area2N_bd {p : List V2} (h : ∀ i, mayP (pat p i) = true) (n : Nat) : -386144720000000000 * (n : Int) ≤ area2N p n ∧ area2N p n ≤ 386144720000000000 * (n : Int) := by
  induction n with
  | zero => simp [area2N]
  | succ n ih => have := prodP_bd (h n) (h (n + 1)); simp only [area2N, term2]; omega
theorem Area23_pure (p : List V2) (hl : p.length ≤ 12) (h : ∀ i, mayP (pat p i) = true) : Pure Tryz.prog 102 [pav p] (.int .i64 (area2 p)) := by
  refine pure_val fun σ ns _ => ?_; refine acalls_of_wpc Tryz.mixed Tryz.dr102 Tryz.func102 rfl (Tryz.fit102 _ rfl) Tryz.en102 (fun hσ => ?_); simp [Tryz.ntmps102]
  refine wpc_loop0 (fun i : Nat => [(5, .any), (6, .any), (7, .any), (8, .any), (9, .any), (10, .any), (11, .any), (12, .any), (13, .any), (14, .any), (15, .any), (16, .any), (17, .any), (18, .any), (19, .any), (20, .any), (21, .any), (22, .any), (23, .any), (24, .any), (25, .any), (26, .any), (27, .any), (28, .any), (29, .any), (30, .any), (31, .any), (32, .any), (3, .int .i64 (area2N p i)), (4, .int .i64 i)]) (fun i => p.length - i) (fun i => i ≤ p.length) 0 (by simp) ?_ ?_
  · simp [area2N]
    (repeat' first | exact AVsle.nil | refine AVsle.cons (AVle.any _) ?_ | refine AVsle.cons (AVle.refl _) ?_ | refine AVsle.cons AVLe.le ?_)
  intro i r hi
  simp
  refine condK_cases (fun h1 => ?_) (fun h1 => ?_)
  · simp at h1
    have hb := area2N_bd h i
    have hp := prodP_bd (h i) (h (i + 1))
    simp
    first | refine Pure.use_le (At3_pure p i (by omega) (by omega)) ?_ | refine callT_le (At3_pure p i (by omega) (by omega)) ?_
    simp (disch := omega) [wrap64]
    first | refine Pure.use_le (At3_pure p (i + 1) (by omega) (by omega)) ?_ | refine callT_le (At3_pure p (i + 1) (by omega) (by omega)) ?_
    have w1 : IntKind.wrap .i64 ((pat p i).1 * (pat p (i + 1)).2) = (pat p i).1 * (pat p (i + 1)).2 := wrap64 (by omega) (by omega)
    have w2 : IntKind.wrap .i64 ((pat p i).2 * (pat p (i + 1)).1) = (pat p i).2 * (pat p (i + 1)).1 := wrap64 (by omega) (by omega)
    have w3 : IntKind.wrap .i64 (area2N p i + (pat p i).1 * (pat p (i + 1)).2) = area2N p i + (pat p i).1 * (pat p (i + 1)).2 := wrap64 (by omega) (by omega)
    have w4 : IntKind.wrap .i64 (area2N p i + (pat p i).1 * (pat p (i + 1)).2 - (pat p i).2 * (pat p (i + 1)).1) = area2N p (i + 1) := by rw [wrap64 (by omega) (by omega)]; simp [area2N, term2]; omega
    have w5 : IntKind.wrap .i64 ((i : Int) + 1) = ((i + 1 : Nat) : Int) := wrap64 (by omega) (by omega)
    simp [w1, w2, w3, w4, w5]
    refine loopG_normal (i + 1) (by omega) (by omega) ?_ ?_ rfl rfl
    · simp
      (repeat' first | exact AVsle.nil | refine AVsle.cons (AVle.any _) ?_ | refine AVsle.cons (AVle.refl _) ?_ | refine AVsle.cons AVLe.le ?_)
    · exact .of_eq (by simp)
  · simp at h1
    obtain rfl : i = p.length := by omega
    simp
    exact endA_eq (by simp [area2]) (by simp)
/-- A polygon is valid. -/
def polyOk (p : List V2) : Prop := (3 ≤ p.length ∧ p.length ≤ 12) ∧ (∀ i < p.length, mayP (pat p i) = true) ∧
  (∀ i < p.length, cross (pat p i) (pat p (i + 1)) (pat p (i + 2)) ≠ 0 ∧ ∀ k < p.length, i + 2 ≤ k → (i ≠ 0 ∨ k + 1 ≠ p.length) → cutSeg (pat p i) (pat p (i + 1)) (pat p k) (pat p (k + 1)) = false) ∧ 0 < area2 p
instance (p : List V2) : Decidable (polyOk p) := by unfold polyOk; exact inferInstance
def rightPoly (p : List V2) : Bool := decide (polyOk p)
theorem may_all {p : List V2} (hn : 0 < p.length) (h : ∀ i < p.length, mayP (pat p i) = true) (i : Nat) : mayP (pat p i) = true := by rw [← pat_mod]; exact h _ (Nat.mod_lt _ hn)
set_option maxHeartbeats 4000000 in
theorem Right3_pure (p : List V2) (hl : p.length ≤ 1000000) : Pure Tryz.prog 67 [pav p] (.bool (rightPoly p)) := by
  refine pure_val fun σ ns _ => ?_; refine acalls_of_wpc Tryz.mixed Tryz.dr67 Tryz.func67 rfl (Tryz.fit67 _ rfl) Tryz.en67 (fun hσ => ?_); simp [Tryz.ntmps67]
  refine guardK_cases (fun h1 => ?_) (fun h1 => ?_) <;> simp [h1] <;> simp at h1
  · exact endA_eq (congrArg AV.bool (decide_eq_false fun h => by have := h.1; omega).symm) (by simp)
  refine condK_cases (fun h2 => ?_) (fun h2 => ?_) <;> simp [h2] <;> simp at h2
  · exact endA_eq (congrArg AV.bool (decide_eq_false fun h => by have := h.1; omega).symm) (by simp)
  refine wpc_loop0 (fun i : Nat => [(2, .any), (15, .any), (16, .any), (17, .any), (18, .any), (19, .any), (20, .any), (21, .any), (22, .any), (23, .any), (24, .any), (25, .any), (4, .int .i64 i)]) (fun i => p.length - i) (fun i => i ≤ p.length ∧ ∀ j < i, mayP (pat p j) = true) 0 (by simp) ?_ ?_
  · simp
    (repeat' first | exact AVsle.nil | refine AVsle.cons (AVle.any _) ?_ | refine AVsle.cons (AVle.refl _) ?_ | refine AVsle.cons AVLe.le ?_)
  rintro i r ⟨hi, hm⟩
  simp
  refine condK_cases (fun h3 => ?_) (fun h3 => ?_) <;> simp [h3] <;> simp at h3
  · have hg := pcs_get h3
    have w : IntKind.wrap .i64 ((i : Int) + 1) = ((i + 1 : Nat) : Int) := wrap64 (by omega) (by omega)
    simp [hg]
    first | refine Pure.use_le (May3_pure (pat p i)) ?_ | refine callT_le (May3_pure (pat p i)) ?_
    simp
    refine condK_cases (fun h4 => ?_) (fun h4 => ?_) <;> simp [h4] <;> simp at h4
    · exact endA_eq (congrArg AV.bool (decide_eq_false fun h => by have := h.2.1 i h3; simp [h4] at this).symm) (by simp)
    · simp [w]
      refine loopG_normal (i + 1) ⟨by omega, fun j hj => ?_⟩ (by omega) ?_ ?_ rfl rfl
      · rcases Nat.lt_succ_iff_lt_or_eq.1 hj with h | rfl
        · exact hm j h
        · exact h4
      · simp
        (repeat' first | exact AVsle.nil | refine AVsle.cons (AVle.any _) ?_ | refine AVsle.cons (AVle.refl _) ?_ | refine AVsle.cons AVLe.le ?_)
      · exact .of_eq (by simp)
  obtain rfl : i = p.length := by omega
  have hM := may_all (by omega) hm
  refine wpc_loop0 (fun i : Nat => [(2, .any), (6, .any), (26, .any), (27, .any), (28, .any), (29, .any), (30, .any), (31, .any), (32, .any), (33, .any), (34, .any), (35, .any), (36, .any), (37, .any), (38, .any), (39, .any), (40, .any), (41, .any), (42, .any), (43, .any), (44, .any), (45, .any), (46, .any), (47, .any), (48, .any), (49, .any), (50, .any), (51, .any), (52, .any), (53, .any), (54, .any), (55, .any), (56, .any), (57, .any), (58, .any), (59, .any), (60, .any), (61, .any), (62, .any), (63, .any), (64, .any), (65, .any), (66, .any), (67, .any), (68, .any), (69, .any), (70, .any), (71, .any), (72, .any), (73, .any), (74, .any), (75, .any), (5, .int .i64 i)]) (fun i => p.length - i) (fun i => i ≤ p.length ∧ ∀ j < i, cross (pat p j) (pat p (j + 1)) (pat p (j + 2)) ≠ 0 ∧ ∀ k < p.length, j + 2 ≤ k → (j ≠ 0 ∨ k + 1 ≠ p.length) → cutSeg (pat p j) (pat p (j + 1)) (pat p k) (pat p (k + 1)) = false) 0 (by simp) ?_ ?_
  · simp
    (repeat' first | exact AVsle.nil | refine AVsle.cons (AVle.any _) ?_ | refine AVsle.cons (AVle.refl _) ?_ | refine AVsle.cons AVLe.le ?_)
  rintro i r2 ⟨hi2, hm2⟩
  simp
  refine condK_cases (fun h3 => ?_) (fun h3 => ?_) <;> simp [h3] <;> simp at h3
  · have w1 : IntKind.wrap .i64 ((i : Int) + 1) = ((i + 1 : Nat) : Int) := wrap64 (by omega) (by omega)
    have w2 : IntKind.wrap .i64 ((i : Int) + 2) = ((i + 2 : Nat) : Int) := wrap64 (by omega) (by omega)
    first | refine Pure.use_le (At3_pure p i (by omega) (by omega)) ?_ | refine callT_le (At3_pure p i (by omega) (by omega)) ?_
    simp [w1]
    first | refine Pure.use_le (At3_pure p (i + 1) (by omega) (by omega)) ?_ | refine callT_le (At3_pure p (i + 1) (by omega) (by omega)) ?_
    simp [w2]
    first | refine Pure.use_le (At3_pure p (i + 2) (by omega) (by omega)) ?_ | refine callT_le (At3_pure p (i + 2) (by omega) (by omega)) ?_
    simp
    first | refine Pure.use_le (Cross3_pure (pat p i) (pat p (i + 1)) (pat p (i + 2)) (hM _) (hM _) (hM _)) ?_ | refine callT_le (Cross3_pure (pat p i) (pat p (i + 1)) (pat p (i + 2)) (hM _) (hM _) (hM _)) ?_
    simp
    refine condK_cases (fun h4 => ?_) (fun h4 => ?_) <;> simp [h4] <;> simp at h4
    · exact endA_eq (congrArg AV.bool (decide_eq_false fun h => by have := h.2.2.1 i h3; simp [h4] at this).symm) (by simp)
    simp [w2]
    refine wpc_loop0 (fun k : Nat => [(2, .any), (46, .any), (47, .any), (48, .any), (49, .any), (50, .any), (51, .any), (52, .any), (53, .any), (54, .any), (55, .any), (56, .any), (57, .any), (58, .any), (59, .any), (60, .any), (61, .any), (62, .any), (63, .any), (64, .any), (65, .any), (66, .any), (67, .any), (68, .any), (69, .any), (70, .any), (71, .any), (72, .any), (73, .any), (74, .any), (75, .any), (6, .int .i64 k)]) (fun k => p.length - k) (fun k => i + 2 ≤ k ∧ k ≤ p.length + 1 ∧ ∀ j < k, i + 2 ≤ j → j < p.length → (i ≠ 0 ∨ j + 1 ≠ p.length) → cutSeg (pat p i) (pat p (i + 1)) (pat p j) (pat p (j + 1)) = false) (i + 2) ⟨by omega, by omega, fun j h1 h2 => by omega⟩ ?_ ?_
    · simp
      (repeat' first | exact AVsle.nil | refine AVsle.cons (AVle.any _) ?_ | refine AVsle.cons (AVle.refl _) ?_ | refine AVsle.cons AVLe.le ?_)
    rintro k r3 ⟨hk1, hk2, hk3⟩
    simp
    have v1 : IntKind.wrap .i64 ((k : Int) + 1) = ((k + 1 : Nat) : Int) := wrap64 (by omega) (by omega)
    have v2 : IntKind.wrap .i64 ((p.length : Int) - 1) = ((p.length - 1 : Nat) : Int) := by rw [wrap64 (by omega) (by omega)]; omega
    have next : (i ≠ 0 ∨ k + 1 ≠ p.length → cutSeg (pat p i) (pat p (i + 1)) (pat p k) (pat p (k + 1)) = false) → ∀ j < k + 1, i + 2 ≤ j → j < p.length → (i ≠ 0 ∨ j + 1 ≠ p.length) → cutSeg (pat p i) (pat p (i + 1)) (pat p j) (pat p (j + 1)) = false := fun hc j hj h1 h2 h3 => by
      rcases Nat.lt_succ_iff_lt_or_eq.1 hj with h | rfl
      · exact hk3 j h h1 h2 h3
      · exact hc h3
    refine condK_cases (fun h5 => ?_) (fun h5 => ?_) <;> simp [h5] <;> simp at h5
    · refine guardK_cases (fun h6 => ?_) (fun h6 => ?_) <;> simp [h6, v2] <;> simp at h6
      · first | refine Pure.use_le (At3_pure p i (by omega) (by omega)) ?_ | refine callT_le (At3_pure p i (by omega) (by omega)) ?_
        simp [w1]
        first | refine Pure.use_le (At3_pure p (i + 1) (by omega) (by omega)) ?_ | refine callT_le (At3_pure p (i + 1) (by omega) (by omega)) ?_
        simp
        first | refine Pure.use_le (At3_pure p k (by omega) (by omega)) ?_ | refine callT_le (At3_pure p k (by omega) (by omega)) ?_
        simp [v1]
        first | refine Pure.use_le (At3_pure p (k + 1) (by omega) (by omega)) ?_ | refine callT_le (At3_pure p (k + 1) (by omega) (by omega)) ?_
        simp
        first | refine Pure.use_le (Cut3_pure (pat p i) (pat p (i + 1)) (pat p k) (pat p (k + 1)) (hM _) (hM _) (hM _) (hM _)) ?_ | refine callT_le (Cut3_pure (pat p i) (pat p (i + 1)) (pat p k) (pat p (k + 1)) (hM _) (hM _) (hM _) (hM _)) ?_
        simp
        refine condK_cases (fun h7 => ?_) (fun h7 => ?_) <;> simp [h7]
        · exact endA_eq (congrArg AV.bool (decide_eq_false fun h => by have := (h.2.2.1 i h3).2 k h5 hk1 (.inl (by omega)); simp [h7] at this).symm) (by simp)
        · simp [v1]
          refine loopG_normal (k + 1) ⟨by omega, by omega, next fun _ => h7⟩ (by omega) ?_ ?_ rfl rfl
          · simp
            (repeat' first | exact AVsle.nil | refine AVsle.cons (AVle.any _) ?_ | refine AVsle.cons (AVle.refl _) ?_ | refine AVsle.cons AVLe.le ?_)
          · exact .of_eq (by simp)
      · have hi0 : i = 0 := by omega
        refine guardK_cases (fun h8 => ?_) (fun h8 => ?_) <;> simp [h8] <;> simp at h8
        · first | refine Pure.use_le (At3_pure p i (by omega) (by omega)) ?_ | refine callT_le (At3_pure p i (by omega) (by omega)) ?_
          simp [w1]
          first | refine Pure.use_le (At3_pure p (i + 1) (by omega) (by omega)) ?_ | refine callT_le (At3_pure p (i + 1) (by omega) (by omega)) ?_
          simp
          first | refine Pure.use_le (At3_pure p k (by omega) (by omega)) ?_ | refine callT_le (At3_pure p k (by omega) (by omega)) ?_
          simp [v1]
          first | refine Pure.use_le (At3_pure p (k + 1) (by omega) (by omega)) ?_ | refine callT_le (At3_pure p (k + 1) (by omega) (by omega)) ?_
          simp
          first | refine Pure.use_le (Cut3_pure (pat p i) (pat p (i + 1)) (pat p k) (pat p (k + 1)) (hM _) (hM _) (hM _) (hM _)) ?_ | refine callT_le (Cut3_pure (pat p i) (pat p (i + 1)) (pat p k) (pat p (k + 1)) (hM _) (hM _) (hM _) (hM _)) ?_
          simp
          refine condK_cases (fun h7 => ?_) (fun h7 => ?_) <;> simp [h7]
          · exact endA_eq (congrArg AV.bool (decide_eq_false fun h => by have := (h.2.2.1 i h3).2 k h5 hk1 (.inr (by omega)); simp [h7] at this).symm) (by simp)
          · simp [v1]
            refine loopG_normal (k + 1) ⟨by omega, by omega, next fun _ => h7⟩ (by omega) ?_ ?_ rfl rfl
            · simp
              (repeat' first | exact AVsle.nil | refine AVsle.cons (AVle.any _) ?_ | refine AVsle.cons (AVle.refl _) ?_ | refine AVsle.cons AVLe.le ?_)
            · exact .of_eq (by simp)
        · simp [v1]
          refine loopG_normal (k + 1) ⟨by omega, by omega, next fun hc => absurd hc (by omega)⟩ (by omega) ?_ ?_ rfl rfl
          · simp
            (repeat' first | exact AVsle.nil | refine AVsle.cons (AVle.any _) ?_ | refine AVsle.cons (AVle.refl _) ?_ | refine AVsle.cons AVLe.le ?_)
          · exact .of_eq (by simp)
    · simp [w1]
      refine loopG_normal (i + 1) ⟨by omega, fun j hj => ?_⟩ (by omega) ?_ ?_ rfl rfl
      · rcases Nat.lt_succ_iff_lt_or_eq.1 hj with h | rfl
        · exact hm2 j h
        · exact ⟨h4, fun k hk hk' hk'' => hk3 k (by omega) hk' hk hk''⟩
      · simp
        (repeat' first | exact AVsle.nil | refine AVsle.cons (AVle.any _) ?_ | refine AVsle.cons (AVle.refl _) ?_ | refine AVsle.cons AVLe.le ?_)
      · exact .of_eq (by simp)
  · obtain rfl : i = p.length := by omega
    first | refine Pure.use_le (Area23_pure p (by omega) hM) ?_ | refine callT_le (Area23_pure p (by omega) hM) ?_
    simp
    refine endA_eq (congrArg AV.bool ?_) (by simp)
    rw [Bool.eq_iff_iff, rightPoly, decide_eq_true_iff, decide_eq_true_iff]
    exact ⟨fun h => ⟨⟨by omega, by omega⟩, hm, hm2, h⟩, fun h => h.2.2.2⟩
end Go.Proofs
