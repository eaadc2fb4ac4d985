/- The walk of RotationAllPairs: it returns true. -/
import Derived.Test.YtondobomjfanbaaW6
set_option linter.unusedVariables false
set_option linter.unusedSimpArgs false
set_option maxRecDepth 100000
namespace Go.Proofs
open Go Go.Abs
attribute [local irreducible] wpc aSeq awAny endA guardK condK CallK callT aPlan onlyL takeL aeffK takeE loopG bodyA thenA inBlockA planK

def allCs : List V2 := (List.range 36).map csN
theorem allCs_nodup : allCs.Nodup := by decide
theorem allCs_len : ∀ v ∈ allCs, v.1 * v.1 + v.2 * v.2 = 4225 := by decide
theorem allCs_mem : ∀ c : Fin 131, ∀ s : Fin 131, ((c.val : Int) - 65) * ((c.val : Int) - 65) + ((s.val : Int) - 65) * ((s.val : Int) - 65) = 4225 → (((c.val : Int) - 65, (s.val : Int) - 65) : V2) ∈ allCs := by decide +kernel
def cnt (c s : Int) (n : Nat) : Nat := ((List.range n).map csN).count (c, s)
theorem cnt_36 (c s : Int) : cnt c s 36 = if c * c + s * s = 4225 then 1 else 0 := by
  show allCs.count (c, s) = _
  split
  · rename_i h
    have hc := mul_self_nn c
    have hs := mul_self_nn s
    have b1 := sq_le (a := c) (r := 65) (by omega) (by omega)
    have b2 := sq_le (a := s) (r := 65) (by omega) (by omega)
    have hm := allCs_mem ⟨(c + 65).toNat, by omega⟩ ⟨(s + 65).toNat, by omega⟩
    simp only [Int.toNat_of_nonneg (show 0 ≤ c + 65 by omega), Int.toNat_of_nonneg (show 0 ≤ s + 65 by omega), Int.add_sub_cancel] at hm
    have := hm h
    have h1 := List.count_pos_iff.2 this
    have h2 := List.nodup_iff_count.1 allCs_nodup (c, s)
    omega
  · rename_i h
    exact List.count_eq_zero_of_not_mem fun hm => h (allCs_len _ hm)
theorem cnt_succ (c s : Int) (n : Nat) : cnt c s (n + 1) = cnt c s n + if csN n = (c, s) then 1 else 0 := by
  unfold cnt
  rw [List.range_succ, List.map_append, List.count_append]
  simp [List.count_singleton]
set_option maxHeartbeats 4000000 in
theorem law5 (c s : Int) (hc : -128 ≤ c ∧ c ≤ 127) (hs : -128 ≤ s ∧ s ≤ 127) : Pure Try.prog 5 [.int .i8 c, .int .i8 s] (.bool true) := by
  have m1 := mul_bound (a := c) (b := c) (A := 128) (B := 128) (by omega) (by omega) (by omega) (by omega)
  have m2 := mul_bound (a := s) (b := s) (A := 128) (B := 128) (by omega) (by omega) (by omega) (by omega)
  have wc : IntKind.wrap .i64 c = c := wrap64 (by omega) (by omega)
  have ws : IntKind.wrap .i64 s = s := wrap64 (by omega) (by omega)
  have w1 : IntKind.wrap .i64 (c * c) = c * c := wrap64 (by omega) (by omega)
  have w2 : IntKind.wrap .i64 (s * s) = s * s := wrap64 (by omega) (by omega)
  have w3 : IntKind.wrap .i64 (c * c + s * s) = c * c + s * s := wrap64 (by omega) (by omega)
  intro σ ns; refine acalls_of_wpc Try.mixed Try.dr5 Try.func5 rfl (Try.fit5 _ rfl) Try.en5 ?_; simp [Try.ntmps5]
  refine Pure.use_le head_pure ?_
  simp
  refine wpc_loop0 (fun i : Nat => [(6, .any), (7, .any), (8, .any), (9, .any), (11, .any), (12, .any), (13, .any), (14, .any), (15, .any), (16, .any), (17, .any), (18, .any), (19, .any), (20, .any), (21, .any), (22, .any), (23, .any), (24, .any), (25, .any), (26, .any), (27, .any), (28, .any), (29, .any), (30, .any), (31, .any),  (6, .int .i64 (cnt c s i)), (7, .int .i64 i)]) (fun i => 36 - i) (fun i => i ≤ 36 ∧ cnt c s i ≤ i) 0 (by simp [cnt]) ?_ ?_
  · simp [cnt]
    (repeat' first | exact AVsle.nil | refine AVsle.cons (AVle.any _) ?_ | refine AVsle.cons (AVle.refl _) ?_ | refine AVsle.cons AVLe.le ?_)
  rintro i k ⟨hi, hci⟩
  simp
  refine condK_cases (fun h => ?_) (fun h => ?_)
  · simp at h
    have hcs : cs i = csN i := by unfold cs; congr 1; omega
    have hstep := cnt_succ c s i
    have hw : IntKind.wrap .i64 ((i : Int) + 1) = (i : Int) + 1 := wrap64 (by omega) (by omega)
    have hwc : IntKind.wrap .i64 ((cnt c s i : Int) + 1) = (cnt c s i : Int) + 1 := wrap64 (by omega) (by omega)
    simp
    refine Pure.use_le (CosSin_pure i) ?_
    rw [hcs]
    generalize csN i = v at hstep
    simp [wc]
    refine guardK_cases (fun h1 => ?_) (fun h1 => ?_) <;> simp [h1, wc, ws] <;> simp at h1
    · refine condK_cases (fun h2 => ?_) (fun h2 => ?_) <;> simp at h2 <;> simp [hw, hwc]
      · refine loopG_normal (i + 1) ⟨by omega, ?_⟩ (by omega) ?_ ?_ rfl rfl
        · rw [hstep]; split <;> omega
        · rw [hstep, if_pos (by ext <;> simp [h1, h2])]
          simp
          (repeat' first | exact AVsle.nil | refine AVsle.cons (AVle.any _) ?_ | refine AVsle.cons (AVle.refl _) ?_ | refine AVsle.cons AVLe.le ?_)
        · exact .of_eq (by simp)
      · refine loopG_normal (i + 1) ⟨by omega, ?_⟩ (by omega) ?_ ?_ rfl rfl
        · rw [hstep]; split <;> omega
        · rw [hstep, if_neg (by intro e; rw [e] at h2; simp at h2)]
          simp
          (repeat' first | exact AVsle.nil | refine AVsle.cons (AVle.any _) ?_ | refine AVsle.cons (AVle.refl _) ?_ | refine AVsle.cons AVLe.le ?_)
        · exact .of_eq (by simp)
    · simp [hw]
      refine loopG_normal (i + 1) ⟨by omega, ?_⟩ (by omega) ?_ ?_ rfl rfl
      · rw [hstep]; split <;> omega
      · rw [hstep, if_neg (by intro e; rw [e] at h1; simp at h1)]
        simp
        (repeat' first | exact AVsle.nil | refine AVsle.cons (AVle.any _) ?_ | refine AVsle.cons (AVle.refl _) ?_ | refine AVsle.cons AVLe.le ?_)
      · exact .of_eq (by simp)
  · simp at h
    obtain rfl : i = 36 := by omega
    have h36 := cnt_36 c s
    simp [wc, ws, w1, w2, w3]
    refine condK_cases (fun h2 => ?_) (fun h2 => ?_) <;> simp at h2 <;> simp [h2] at h36 <;> simp [h36] <;> exact endA_pure (by simp)
end Go.Proofs
