/- Walks over lists of configurations. -/
import Derived.Test.YtajdhkchgidjmaaW12
set_option linter.unusedVariables false
set_option linter.unusedSimpArgs false
set_option maxRecDepth 100000
namespace Go.Proofs
open Go Go.Abs
attribute [local irreducible] wpc aSeq awAny endA guardK condK CallK callT aPlan onlyL takeL aeffK takeE loopG bodyA thenA inBlockA planK roundG assignG bodyI endI YieldK unrollG
theorem jcs_get {l : List J3} {i : Nat} {q : J3} (h : l[i]? = some q) : (jcs l)[i]? = some [.int .i64 q.a, .int .i64 q.b, .int .i64 q.c] := by
  unfold jcs; rw [List.getElem?_map, h]; rfl
theorem j3_beq (e d : J3) : (e.a == d.a && (e.b == d.b && e.c == d.c)) = decide (e = d) := by
  obtain ⟨x, y, n⟩ := e; obtain ⟨x', y', n'⟩ := d
  rw [Bool.eq_iff_iff]; simp
theorem aeq3 (x y : J3) : aeqElems Try.prog 8 3 1 [.int .i64 x.a, .int .i64 x.b, .int .i64 x.c] [.int .i64 y.a, .int .i64 y.b, .int .i64 y.c] (List.range 3) = some (decide (x = y)) := by
  rw [show List.range 3 = [0, 1, 2] from rfl, ← j3_beq]
  simp [aeqElems, apart, aeq]
theorem has_pure (l : List J3) (q : J3) (hl : l.length ≤ 100000) : Pure Try.prog 22 [.sl 3 (jcs l) .unk, q.av] (.bool (decide (q ∈ l))) := by
  intro σ ns; refine acalls_of_wpc Try.mixed Try.dr22 Try.func22 rfl (Try.fit22 _ rfl) Try.en22 (fun hσ => ?_); simp [Try.ntmps22]
  refine wpc_loop0 (fun i : Nat => [(4, .any), (5, .any), (6, .any), (7, .any), (8, .any), (9, .any), (10, .any), (11, .any), (12, .any), (13, .any), (14, .any), (15, .any), (16, .any), (17, .any),  (5, .int .i64 i)]) (fun i => l.length - i) (fun i => i ≤ l.length ∧ ∀ x ∈ l.take i, x ≠ q) 0 (by simp) ?_ ?_
  · simp
    (repeat' first | exact AVsle.nil | refine AVsle.cons (AVle.any _) ?_ | refine AVsle.cons (AVle.refl _) ?_ | refine AVsle.cons AVLe.le ?_)
  rintro i k ⟨hi, hx⟩
  simp
  refine condK_cases (fun h => ?_) (fun h => ?_) <;> simp at h
  · have hg : l[i]? = some l[i] := List.getElem?_eq_getElem h
    have ht : l.take (i + 1) = l.take i ++ [l[i]] := List.take_succ_eq_append_getElem h
    have hin : l[i] ∈ l := List.getElem_mem h
    generalize l[i] = x at hg ht hin
    have w : IntKind.wrap .i64 (i + 1) = i + 1 := wrap64 (by omega) (by omega)
    simp [jcs_get hg, aeq3]
    refine condK_cases (fun h1 => ?_) (fun h1 => ?_) <;> simp at h1
    · subst h1
      simp
      exact endA_eq (by simp [hin]) (by simp)
    · simp [w]
      refine loopG_normal (i + 1) ⟨by omega, ?_⟩ (by omega) ?_ ?_ rfl rfl
      · rw [ht]; intro y hy
        rcases List.mem_append.1 hy with hy | hy
        · exact hx y hy
        · simp at hy; subst hy; exact h1
      · simp
        (repeat' first | exact AVsle.nil | refine AVsle.cons (AVle.any _) ?_ | refine AVsle.cons (AVle.refl _) ?_ | refine AVsle.cons AVLe.le ?_)
      · exact StWk.weak (.refl _)
  · simp
    rw [List.take_of_length_le (by omega)] at hx
    exact endA_eq (congrArg AV.bool (decide_eq_false fun hq => hx q hq rfl).symm) (by simp)
theorem same_pure (l l' : List J3) (hl : l.length ≤ 100000) (hl' : l'.length ≤ 100000) : Pure Try.prog 13 [.sl 3 (jcs l) .unk, .sl 3 (jcs l') .unk] (.bool (decide (l = l'))) := by
  intro σ ns; refine acalls_of_wpc Try.mixed Try.dr13 Try.func13 rfl (Try.fit13 _ rfl) Try.en13 (fun hσ => ?_); simp [Try.ntmps13]
  refine condK_cases (fun h => ?_) (fun h => ?_) <;> simp at h
  · simp
    exact endA_eq (congrArg AV.bool (decide_eq_false fun e => h (by rw [e])).symm) (by simp)
  simp
  refine wpc_loop0 (fun i : Nat => [(4, .any), (5, .any), (11, .any), (12, .any), (13, .any), (14, .any), (15, .any), (16, .any), (17, .any), (18, .any), (19, .any), (20, .any), (21, .any), (22, .any), (23, .any), (24, .any), (25, .any),  (5, .int .i64 i)]) (fun i => l.length - i) (fun i => i ≤ l.length ∧ l.take i = l'.take i) 0 (by simp) ?_ ?_
  · simp
    (repeat' first | exact AVsle.nil | refine AVsle.cons (AVle.any _) ?_ | refine AVsle.cons (AVle.refl _) ?_ | refine AVsle.cons AVLe.le ?_)
  rintro i k ⟨hi, hx⟩
  simp
  refine condK_cases (fun h1 => ?_) (fun h1 => ?_) <;> simp at h1
  · have hg : l[i]? = some l[i] := List.getElem?_eq_getElem h1
    have ht : l.take (i + 1) = l.take i ++ [l[i]] := List.take_succ_eq_append_getElem h1
    have h2 : i < l'.length := by omega
    have hg' : l'[i]? = some l'[i] := List.getElem?_eq_getElem h2
    have ht' : l'.take (i + 1) = l'.take i ++ [l'[i]] := List.take_succ_eq_append_getElem h2
    have hne : l[i] ≠ l'[i] → l ≠ l' := fun hn e => hn (by subst e; rfl)
    generalize l[i] = x at hg ht hne
    generalize l'[i] = x' at hg' ht' hne
    have w : IntKind.wrap .i64 (i + 1) = i + 1 := wrap64 (by omega) (by omega)
    simp [jcs_get hg, jcs_get hg', aeq3]
    refine condK_cases (fun h3 => ?_) (fun h3 => ?_)
    · have hn : x ≠ x' := by simpa using h3
      simp
      exact endA_eq (congrArg AV.bool (decide_eq_false (hne hn)).symm) (by simp)
    · have hn : x = x' := by simpa using h3
      simp [w]
      refine loopG_normal (i + 1) ⟨by omega, by rw [ht, ht', hx, hn]⟩ (by omega) ?_ ?_ rfl rfl
      · simp
        (repeat' first | exact AVsle.nil | refine AVsle.cons (AVle.any _) ?_ | refine AVsle.cons (AVle.refl _) ?_ | refine AVsle.cons AVLe.le ?_)
      · exact StWk.weak (.refl _)
  · simp
    rw [List.take_of_length_le (by omega), List.take_of_length_le (by omega)] at hx
    exact endA_eq (congrArg AV.bool (decide_eq_true hx).symm) (by simp)
end Go.Proofs
