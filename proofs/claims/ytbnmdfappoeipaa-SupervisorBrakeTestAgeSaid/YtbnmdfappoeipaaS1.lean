/- Plain definitions of the supervisor; walks of the small functions. -/
import Derived.Test.YtbnmdfappoeipaaD
import Derived.Test.YtbnmdfappoeipaaA16
set_option linter.unusedVariables false
set_option linter.unusedSimpArgs false
set_option maxRecDepth 100000
namespace Go.Proofs
open Go Go.Abs
attribute [local irreducible] wpc aSeq awAny endA guardK condK CallK callT aPlan onlyL takeL aeffK takeE loopG bodyA thenA inBlockA planK roundG assignG bodyI endI YieldK unrollG
structure Vi where
  k : Int
  a : Int
  j : Int
  n : Int
  deriving DecidableEq
abbrev Vi.cells (v : Vi) : List AV := [.int .i64 v.k, .int .i64 v.a, .int .i64 v.j, .int .i64 v.n]
abbrev Vi.av (v : Vi) : AV := .agg v.cells
def vcs (l : List Vi) : List (List AV) := l.map Vi.cells
@[simp] theorem vcs_nil : vcs [] = [] := rfl
@[simp] theorem vcs_len (l : List Vi) : (vcs l).length = l.length := by simp [vcs]
theorem vcs_snoc (l : List Vi) (v : Vi) : vcs l ++ [[.int .i64 v.k, .int .i64 v.a, .int .i64 v.j, .int .i64 v.n]] = vcs (l ++ [v]) := by simp [vcs]
def v0 : Vi := ⟨0, 0, 0, 0⟩
theorem vget {l : List Vi} {i : Nat} (h : i < l.length) : l[i]? = some (l.getD i v0) := by
  rw [List.getElem?_eq_getElem h]; simp [List.getD, h]
theorem vcs_get {l : List Vi} {i : Nat} {v : Vi} (h : l[i]? = some v) : (vcs l)[i]? = some [.int .i64 v.k, .int .i64 v.a, .int .i64 v.j, .int .i64 v.n] := by
  simp [vcs, h]
theorem vtake {l : List Vi} {i : Nat} (h : i < l.length) : l.take (i + 1) = l.take i ++ [l.getD i v0] := by
  rw [List.take_succ_eq_append_getElem h]; simp [List.getD, h]
structure SS where
  mode : Int
  cat : Int
  left : Int
  ca : List Vi
  t0 : Int
  t1 : Int
  deriving DecidableEq
abbrev SS.cells (s : SS) : List AV := [.int .i64 s.mode, .int .i64 s.cat, .int .i64 s.left, .sl 4 (vcs s.ca) .unk, .int .i64 s.t0, .int .i64 s.t1]
abbrev SS.av (s : SS) : AV := .agg s.cells
def s0 : SS := ⟨1, 0, 0, [], 0, 0⟩
@[simp] theorem w64_0 : IntKind.wrap .i64 0 = 0 := by decide
@[simp] theorem w64_1 : IntKind.wrap .i64 1 = 1 := by decide
@[simp] theorem w64_2 : IntKind.wrap .i64 2 = 2 := by decide
@[simp] theorem w64_3 : IntKind.wrap .i64 3 = 3 := by decide
theorem rNew_pure : Pure Try.prog 16 [] s0.av := by
  intro σ ns; refine acalls_of_wpc Try.mixed Try.dr16 Try.func16 rfl (Try.fit16 _ rfl) Try.en16 (fun hσ => ?_); simp [Try.ntmps16]
  refine endA_weak ?_ (StWeak.same (by simp))
  show AVle _ (.agg [.int .i64 1, .int .i64 0, .int .i64 0, .sl 4 [] .unk, .int .i64 0, .int .i64 0])
  exact AVLe.le
theorem pNew_pure : Pure Try.prog 18 [] s0.av := by
  intro σ ns; refine acalls_of_wpc Try.mixed Try.dr18 Try.func18 rfl (Try.fit18 _ rfl) Try.en18 (fun hσ => ?_); simp [Try.ntmps18]
  refine endA_weak ?_ (StWeak.same (by simp))
  show AVle _ (.agg [.int .i64 1, .int .i64 0, .int .i64 0, .sl 4 [] .unk, .int .i64 0, .int .i64 0])
  exact AVLe.le
def vcat (v : Vi) : Int := if v.k = 1 ∨ v.k = 6 ∨ v.k = 8 then 0 else if v.k = 2 ∨ v.k = 3 ∨ v.k = 5 then 1 else if v.k = 4 ∨ v.k = 7 then 2 else 3
theorem vcat_bd (v : Vi) : 0 ≤ vcat v ∧ vcat v ≤ 3 := by
  unfold vcat; repeat' split
  all_goals omega
theorem rCat_pure (v : Vi) : Pure Try.prog 15 [v.av] (.int .i64 (vcat v)) := by
  intro σ ns; refine acalls_of_wpc Try.mixed Try.dr15 Try.func15 rfl (Try.fit15 _ rfl) Try.en15 (fun hσ => ?_); simp [Try.ntmps15]
  repeat' first
    | (refine condK_cases (fun h => ?_) (fun h => ?_) <;> simp [h] <;> simp at h)
  all_goals exact endA_eq (by simp_all [vcat]) (by simp)
theorem pCat_pure (v : Vi) : Pure Try.prog 14 [v.av] (.int .i64 (vcat v)) := by
  obtain ⟨k, a, j, n⟩ := v
  intro σ ns; refine acalls_of_wpc Try.mixed Try.dr14 Try.func14 rfl (Try.fit14 _ rfl) Try.en14 (fun hσ => ?_); simp [Try.ntmps14]
  by_cases h1 : k = 1
  · subst h1; simp; exact endA_eq (by simp [vcat]) (by simp)
  by_cases h6 : k = 6
  · subst h6; simp; exact endA_eq (by simp [vcat]) (by simp)
  by_cases h8 : k = 8
  · subst h8; simp; exact endA_eq (by simp [vcat]) (by simp)
  by_cases h2 : k = 2
  · subst h2; simp; exact endA_eq (by simp [vcat]) (by simp)
  by_cases h3 : k = 3
  · subst h3; simp; exact endA_eq (by simp [vcat]) (by simp)
  by_cases h5 : k = 5
  · subst h5; simp; exact endA_eq (by simp [vcat]) (by simp)
  by_cases h4 : k = 4
  · subst h4; simp; exact endA_eq (by simp [vcat]) (by simp)
  by_cases h7 : k = 7
  · subst h7; simp; exact endA_eq (by simp [vcat]) (by simp)
  have g : ∀ {x : Int}, ¬ k = x → (k == x) = false := fun h => by simpa using h
  simp [g h1, g h2, g h3, g h4, g h5, g h6, g h7, g h8]
  exact endA_eq (by simp [vcat, h1, h2, h3, h4, h5, h6, h7, h8]) (by simp)
def wi (n a b : Int) : Bool := decide (a ≤ n ∧ n ≤ b)
theorem within_pure (n a b : Int) : Pure Try.prog 25 [.int .i64 n, .int .i64 a, .int .i64 b] (.bool (wi n a b)) := by
  unfold wi
  intro σ ns; refine acalls_of_wpc Try.mixed Try.dr25 Try.func25 rfl (Try.fit25 _ rfl) Try.en25 (fun hσ => ?_); simp [Try.ntmps25]
  refine guardK_cases (fun h => ?_) (fun h => ?_) <;> simp [h] <;> simp at h
  · exact endA_eq (by simp [h]) (by simp)
  · exact endA_eq (by simp <;> omega) (by simp)
def sval (s : SS) : Bool := wi s.left 0 60 && decide (s.ca.length ≤ 16) && wi s.t0 0 1073741824 && wi s.t1 0 1073741824 &&
  (if s.mode = 1 ∨ s.mode = 2 then (s.cat == 0) && (s.left == 0) && ((s.ca.length : Int) == 0)
   else if s.mode = 3 then wi s.cat 0 2
   else if s.mode = 4 then wi s.cat 0 1 && (s.left == 0)
   else if s.mode = 5 then (s.cat == 2) && (s.left == 0) else false)
theorem bcases {p : Prop} (b : Bool) (h1 : b = true → p) (h2 : b = false → p) : p := by cases b; exact h2 rfl; exact h1 rfl
set_option maxHeartbeats 8000000 in
theorem valid_pure (s : SS) : Pure Try.prog 12 [s.av] (.bool (sval s)) := by
  intro σ ns; refine acalls_of_wpc Try.mixed Try.dr12 Try.func12 rfl (Try.fit12 _ rfl) Try.en12 (fun hσ => ?_); simp [Try.ntmps12]
  first | refine Pure.use_le (within_pure s.left 0 60) ?_ | refine callT_le (within_pure s.left 0 60) ?_
  simp
  refine bcases (wi s.left 0 60) (fun h1 => ?_) (fun h1 => ?_)
  rotate_left
  · simp [h1]
    exact endA_eq (by simp [sval, h1]) (by simp)
  by_cases h2 : s.ca.length ≤ 16
  rotate_left
  · simp [h1, show (16 : Int) < s.ca.length by omega]
    exact endA_eq (by simp [sval, h2]) (by simp)
  simp [h1, show ¬ (16 : Int) < s.ca.length by omega]
  first | refine Pure.use_le (within_pure s.t0 0 1073741824) ?_ | refine callT_le (within_pure s.t0 0 1073741824) ?_
  simp
  refine bcases (wi s.t0 0 1073741824) (fun h3 => ?_) (fun h3 => ?_)
  rotate_left
  · simp [h3]
    exact endA_eq (by simp [sval, h3]) (by simp)
  simp [h3]
  first | refine Pure.use_le (within_pure s.t1 0 1073741824) ?_ | refine callT_le (within_pure s.t1 0 1073741824) ?_
  simp
  refine bcases (wi s.t1 0 1073741824) (fun h4 => ?_) (fun h4 => ?_)
  rotate_left
  · simp [h4]
    exact endA_eq (by simp [sval, h4]) (by simp)
  simp [h4]
  by_cases m1 : s.mode = 1
  · simp [m1]
    repeat' first
      | (refine guardK_cases (fun h => ?_) (fun h => ?_) <;> simp [h])
    all_goals exact endA_eq (by simp_all [sval]) (by simp)
  by_cases m2 : s.mode = 2
  · simp [m2]
    repeat' first
      | (refine guardK_cases (fun h => ?_) (fun h => ?_) <;> simp [h])
    all_goals exact endA_eq (by simp_all [sval]) (by simp)
  by_cases m3 : s.mode = 3
  · simp [m3]
    first | refine Pure.use_le (within_pure s.cat 0 2) ?_ | refine callT_le (within_pure s.cat 0 2) ?_
    simp
    exact endA_eq (by simp_all [sval]) (by simp)
  by_cases m4 : s.mode = 4
  · simp [m4]
    first | refine Pure.use_le (within_pure s.cat 0 1) ?_ | refine callT_le (within_pure s.cat 0 1) ?_
    simp
    refine guardK_cases (fun h => ?_) (fun h => ?_) <;> simp [h]
    all_goals exact endA_eq (by simp_all [sval]) (by simp)
  by_cases m5 : s.mode = 5
  · simp [m5]
    refine guardK_cases (fun h => ?_) (fun h => ?_) <;> simp [h]
    all_goals exact endA_eq (by simp_all [sval]) (by simp)
  have g : ∀ {x : Int}, ¬ s.mode = x → (s.mode == x) = false := fun h => by simpa using h
  simp [g m1, g m2, g m3, g m4, g m5]
  exact endA_eq (by simp_all [sval]) (by simp)
set_option maxHeartbeats 8000000 in
theorem right_pure (s : SS) : Pure Try.prog 13 [s.av] (.bool (sval s)) := by
  intro σ ns; refine acalls_of_wpc Try.mixed Try.dr13 Try.func13 rfl (Try.fit13 _ rfl) Try.en13 (fun hσ => ?_); simp [Try.ntmps13]
  by_cases a1 : s.left < 0
  · simp [a1]
    exact endA_eq (by simp [sval, wi, show ¬ 0 ≤ s.left by omega]) (by simp)
  by_cases a2 : 60 < s.left
  · simp [a1, a2]
    exact endA_eq (by simp [sval, wi, show ¬ s.left ≤ 60 by omega]) (by simp)
  by_cases a3 : (16 : Int) < s.ca.length
  · simp [a1, a2, a3]
    exact endA_eq (by simp [sval, show ¬ s.ca.length ≤ 16 by omega]) (by simp)
  by_cases a4 : s.t0 < 0
  · simp [a1, a2, a3, a4]
    exact endA_eq (by simp [sval, wi, show ¬ 0 ≤ s.t0 by omega]) (by simp)
  by_cases a5 : 1073741824 < s.t0
  · simp [a1, a2, a3, a4, a5]
    exact endA_eq (by simp [sval, wi, show ¬ s.t0 ≤ 1073741824 by omega]) (by simp)
  by_cases a6 : s.t1 < 0
  · simp [a1, a2, a3, a4, a5, a6]
    exact endA_eq (by simp [sval, wi, show ¬ 0 ≤ s.t1 by omega]) (by simp)
  by_cases a7 : 1073741824 < s.t1
  · simp [a1, a2, a3, a4, a5, a6, a7]
    exact endA_eq (by simp [sval, wi, show ¬ s.t1 ≤ 1073741824 by omega]) (by simp)
  simp [a1, a2, a3, a4, a5, a6, a7]
  have h1 : wi s.left 0 60 = true := by unfold wi; exact decide_eq_true ⟨by omega, by omega⟩
  have h2 : s.ca.length ≤ 16 := by omega
  have h3 : wi s.t0 0 1073741824 = true := by unfold wi; exact decide_eq_true ⟨by omega, by omega⟩
  have h4 : wi s.t1 0 1073741824 = true := by unfold wi; exact decide_eq_true ⟨by omega, by omega⟩
  clear a1 a2 a3 a4 a5 a6 a7
  by_cases m1 : s.mode = 1
  · simp [m1]
    repeat' first
      | (refine guardK_cases (fun h => ?_) (fun h => ?_) <;> simp [h])
    all_goals exact endA_eq (by simp_all [sval]) (by simp)
  by_cases m2 : s.mode = 2
  · simp [m2]
    repeat' first
      | (refine guardK_cases (fun h => ?_) (fun h => ?_) <;> simp [h])
    all_goals exact endA_eq (by simp_all [sval]) (by simp)
  by_cases m3 : s.mode = 3
  · simp [m3]
    refine guardK_cases (fun h => ?_) (fun h => ?_) <;> simp [h]
    all_goals exact endA_eq (by first | (simp_all [sval, wi]; done) | (simp_all [sval, wi]; omega)) (by simp)
  by_cases m4 : s.mode = 4
  · simp [m4]
    by_cases c0 : s.cat = 0
    · simp [c0]
      exact endA_eq (by simp_all [sval, wi]) (by simp)
    by_cases c1 : s.cat = 1
    · simp [c0, c1]
      exact endA_eq (by simp_all [sval, wi]) (by simp)
    have g : ∀ {x : Int}, ¬ s.cat = x → (s.cat == x) = false := fun h => by simpa using h
    simp [g c0, g c1]
    exact endA_eq (by simp [sval, h1, h2, h3, h4, m4, wi, show ¬ (0 ≤ s.cat ∧ s.cat ≤ 1) by omega] <;> omega) (by simp)
  by_cases m5 : s.mode = 5
  · simp [m5]
    refine guardK_cases (fun h => ?_) (fun h => ?_) <;> simp [h]
    all_goals exact endA_eq (by simp_all [sval]) (by simp)
  have g : ∀ {x : Int}, ¬ s.mode = x → (s.mode == x) = false := fun h => by simpa using h
  simp [g m1, g m2, g m3, g m4, g m5]
  exact endA_eq (by simp_all [sval]) (by simp)
end Go.Proofs
