/- The walk of InvkinNearest: it returns true. -/
import Derived.Test.YtajdhkchgidjmaaM7
set_option linter.unusedVariables false
set_option linter.unusedSimpArgs false
set_option maxRecDepth 100000
namespace Go.Proofs
open Go Go.Abs
attribute [local irreducible] wpc aSeq awAny endA guardK condK CallK callT aPlan onlyL takeL aeffK takeE loopG bodyA thenA inBlockA planK roundG assignG bodyI endI YieldK unrollG
theorem dist_le {p q : J3} (hp : small p = true) (hq : small q = true) : dist p q ≤ 6000 := by
  have h1 := small_spec hp
  have h2 := small_spec hq
  unfold dist mx; repeat' split
  all_goals omega
theorem near3_small (l : List J3) (q : J3) (hs : ∀ x ∈ l, small x = true) (hl : l ≠ []) : small (l.getD (bestI l q l.length) j0) = true :=
  hs _ (getD_mem (by have := bestI_lt l q l.length; have : 0 < l.length := List.length_pos_iff.2 hl; omega))
theorem near3_eq (l : List J3) (q : J3) (hl : l ≠ []) : near3 l q = (l.getD (bestI l q l.length) j0, true) := if_neg hl
set_option maxHeartbeats 8000000 in
theorem law8 (l : List J3) (q r s : J3) : Pure Try.prog 8 [.sl 3 (jcs l) .unk, q.av, r.av, s.av] (.bool true) := by
  intro σ ns; refine acalls_of_wpc Try.mixed Try.dr8 Try.func8 rfl (Try.fit8 _ rfl) Try.en8 (fun hσ => ?_); simp [Try.ntmps8]
  first | refine Pure.use_le (head8_pure) ?_ | refine callT_le (head8_pure) ?_
  simp
  first | refine Pure.use_le (small_pure q) ?_ | refine callT_le (small_pure q) ?_
  simp
  first | refine Pure.use_le (small_pure r) ?_ | refine callT_le (small_pure r) ?_
  simp
  first | refine Pure.use_le (small_pure s) ?_ | refine callT_le (small_pure s) ?_
  simp
  rcases Bool.eq_false_or_eq_true (small q) with hq | hq
  rotate_left
  · simp [hq]
    exact endA_eq (by simp) (by simp)
  rcases Bool.eq_false_or_eq_true (small r) with hr | hr
  rotate_left
  · simp [hq, hr]
    exact endA_eq (by simp) (by simp)
  rcases Bool.eq_false_or_eq_true (small s) with hs | hs
  rotate_left
  · simp [hq, hr, hs]
    exact endA_eq (by simp) (by simp)
  by_cases hl : l.length ≤ 100
  rotate_left
  · simp [hq, hr, hs, show (100 : Int) < (l.length : Int) by omega]
    exact endA_eq (by simp) (by simp)
  simp [hq, hr, hs, show ¬ (100 : Int) < (l.length : Int) by omega]
  have d1 := dist_nn q r
  have d2 := dist_comm q r
  have d3 := dist_tri q r s
  have b1 := dist_le hq hs
  have b2 := dist_le hs hr
  have b3 := dist_nn q s
  have b4 := dist_nn s r
  have dz : (dist q r == 0) = decide (q = r) := by rw [Bool.eq_iff_iff]; simp [dist_zero]
  have w0 : IntKind.wrap .i64 (dist q s + dist s r) = dist q s + dist s r := wrap64 (by omega) (by omega)
  first | refine Pure.use_le (distance_pure q r hq hr) ?_ | refine callT_le (distance_pure q r hq hr) ?_
  simp [show ¬ dist q r < 0 by omega, aeq3, dz]
  first | refine Pure.use_le (distance_pure r q hr hq) ?_ | refine callT_le (distance_pure r q hr hq) ?_
  simp [← d2]
  first | refine Pure.use_le (distance_pure q s hq hs) ?_ | refine callT_le (distance_pure q s hq hs) ?_
  simp
  first | refine Pure.use_le (distance_pure s r hs hr) ?_ | refine callT_le (distance_pure s r hs hr) ?_
  simp [w0, show ¬ dist q s + dist s r < dist q r by omega]
  refine wpc_loop0 (fun i : Nat => [(8, .any), (14, .any), (15, .any), (75, .any), (76, .any), (77, .any), (78, .any), (79, .any), (80, .any), (81, .any), (82, .any), (83, .any), (84, .any), (85, .any), (86, .any), (87, .any), (88, .any),  (14, .int .i64 i)]) (fun i => l.length - i) (fun i => i ≤ l.length ∧ ∀ x ∈ l.take i, small x = true) 0 (by simp) ?_ ?_
  · simp
    (repeat' first | exact AVsle.nil | refine AVsle.cons (AVle.any _) ?_ | refine AVsle.cons (AVle.refl _) ?_ | refine AVsle.cons AVLe.le ?_)
  rintro i k ⟨hi, hsm⟩
  simp
  refine condK_cases (fun h => ?_) (fun h => ?_) <;> simp at h
  · have g := getD_some h
    have ht : l.take (i + 1) = l.take i ++ [l.getD i j0] := by
      rw [List.take_succ_eq_append_getElem h]; simp [List.getD, h]
    generalize l.getD i j0 = x at *
    have w1 : IntKind.wrap .i64 ((i : Int) + 1) = ((i + 1 : Nat) : Int) := wrap64 (by omega) (by omega)
    simp [jcs_get g]
    first | refine Pure.use_le (small_pure x) ?_ | refine callT_le (small_pure x) ?_
    simp
    rcases Bool.eq_false_or_eq_true (small x) with hx | hx <;> simp [hx, w1]
    · refine loopG_normal (i + 1) ⟨by omega, ?_⟩ (by omega) ?_ (StWk.weak (.refl _)) rfl rfl
      · intro y hy
        rw [ht] at hy
        rcases List.mem_append.1 hy with hy | hy
        · exact hsm y hy
        · simp at hy; rw [hy]; exact hx
      · simp
        (repeat' first | exact AVsle.nil | refine AVsle.cons (AVle.any _) ?_ | refine AVsle.cons (AVle.refl _) ?_ | refine AVsle.cons AVLe.le ?_)
    · exact endA_eq (by simp) (by simp)
  obtain rfl : i = l.length := by omega
  rw [List.take_length] at hsm
  simp
  first | refine Pure.use_le (nearest_pure l q (by omega) hsm hq) ?_ | refine callT_le (nearest_pure l q (by omega) hsm hq) ?_
  simp
  by_cases hn : l = []
  · subst hn
    simp [near3]
    exact endA_eq (by simp) (by simp)
  have hb : bestI l q l.length < l.length := by have := bestI_lt l q l.length; have : 0 < l.length := List.length_pos_iff.2 hn; omega
  have hmin := bestI_min l q l.length
  have hbs := near3_small l q hsm hn
  rw [near3_eq l q hn]
  have gb := getD_some hb
  have hbe : ∀ j, j < bestI l q l.length → ¬ l.getD j j0 = l.getD (bestI l q l.length) j0 := fun j hj e => by
    have := hmin.2 j hj; rw [e] at this; omega
  generalize bestI l q l.length = b at *
  have hmin1 : ∀ j, j < l.length → ¬ dist (l.getD j j0) q < dist (l.getD b j0) q := fun j hj => by have := hmin.1 j hj; omega
  have hmin2 : ∀ j, j < b → ¬ dist (l.getD j j0) q = dist (l.getD b j0) q := fun j hj => by have := hmin.2 j hj; omega
  generalize hz : l.getD b j0 = z at *
  simp
  refine wpc_loop0 (fun i : Nat => [(8, .any), (18, .any), (19, .any), (20, .any), (103, .any), (104, .any), (105, .any), (106, .any), (107, .any), (108, .any), (109, .any), (110, .any), (111, .any), (112, .any), (113, .any), (114, .any), (115, .any), (116, .any), (117, .any), (118, .any), (119, .any), (120, .any), (121, .any), (122, .any), (123, .any), (124, .any), (125, .any), (126, .any), (127, .any), (128, .any), (129, .any), (130, .any), (131, .any), (132, .any), (133, .any), (134, .any), (135, .any), (136, .any), (137, .any), (138, .any), (139, .any), (140, .any), (141, .any), (142, .any), (143, .any), (144, .any), (145, .any), (146, .any), (147, .any),  (18, .bool (decide (b < i))), (19, .int .i64 i)]) (fun i => l.length - i) (fun i => i ≤ l.length) 0 (by simp) ?_ ?_
  · simp
    (repeat' first | exact AVsle.nil | refine AVsle.cons (AVle.any _) ?_ | refine AVsle.cons (AVle.refl _) ?_ | refine AVsle.cons AVLe.le ?_)
  rintro i k hi
  simp
  refine condK_cases (fun h => ?_) (fun h => ?_) <;> simp at h
  · have g := getD_some h
    have hx := hsm _ (getD_mem h)
    have m1 := hmin1 i h
    have m2 := hmin2 i
    have m3 := hbe i
    have e3 : i = b → l.getD i j0 = z := fun e => by rw [e, hz]
    generalize l.getD i j0 = x at *
    have w1 : IntKind.wrap .i64 ((i : Int) + 1) = ((i + 1 : Nat) : Int) := wrap64 (by omega) (by omega)
    simp [jcs_get g]
    first | refine Pure.use_le (distance_pure x q hx hq) ?_ | refine callT_le (distance_pure x q hx hq) ?_
    simp
    first | refine Pure.use_le (distance_pure z q hbs hq) ?_ | refine callT_le (distance_pure z q hbs hq) ?_
    simp [m1]
    rcases Nat.lt_trichotomy i b with hc | hc | hc
    · simp [show ¬ b < i by omega]
      first | refine Pure.use_le (distance_pure z q hbs hq) ?_ | refine callT_le (distance_pure z q hbs hq) ?_
      simp [show (dist x q == dist z q) = false by simpa using m2 hc, jcs_get g, aeq3, m3 hc, w1]
      refine loopG_normal (i + 1) (by omega) (by omega) ?_ (.of_eq (by simp)) rfl rfl
      simp [show ¬ b < i + 1 by omega]
      (repeat' first | exact AVsle.nil | refine AVsle.cons (AVle.any _) ?_ | refine AVsle.cons (AVle.refl _) ?_ | refine AVsle.cons AVLe.le ?_)
    · obtain rfl := e3 hc
      simp [show ¬ b < i by omega]
      first | refine Pure.use_le (distance_pure x q hbs hq) ?_ | refine callT_le (distance_pure x q hbs hq) ?_
      simp [jcs_get g, aeq3, w1]
      refine loopG_normal (i + 1) (by omega) (by omega) ?_ (.of_eq (by simp)) rfl rfl
      simp [show b < i + 1 by omega]
      (repeat' first | exact AVsle.nil | refine AVsle.cons (AVle.any _) ?_ | refine AVsle.cons (AVle.refl _) ?_ | refine AVsle.cons AVLe.le ?_)
    · simp [hc, w1]
      refine loopG_normal (i + 1) (by omega) (by omega) ?_ (.of_eq (by simp)) rfl rfl
      simp [show b < i + 1 by omega]
      (repeat' first | exact AVsle.nil | refine AVsle.cons (AVle.any _) ?_ | refine AVsle.cons (AVle.refl _) ?_ | refine AVsle.cons AVLe.le ?_)
  · simp [show b < i by omega]
    exact endA_eq (by simp) (by simp)
end Go.Proofs
