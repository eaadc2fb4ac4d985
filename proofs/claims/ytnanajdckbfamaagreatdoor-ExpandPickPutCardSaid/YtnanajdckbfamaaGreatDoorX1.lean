/- Expansion: plain definitions; checks that panic; walks of the methods that execute a step. -/
import Derived.Test.YtnanajdckbfamaaGreatDoorC5
set_option linter.unusedVariables false
set_option linter.unusedSimpArgs false
set_option maxRecDepth 100000
namespace Go.Abs
/-- The end of a function that panics, by its parts. -/
def endP (v : AV) (τ : Store) (d : List ADf) (σ : Store) (ns : Nm) (R : AEnd → Store → Prop) : Prop :=
  d = [] ∧ ∃ v' σ', AVle v v' ∧ StWeak ns σ τ σ' ∧ R (.panic v') σ'
@[congr] theorem endP_congr {v v' : AV} {τ τ' : Store} {d d' : List ADf} {σ : Store} {ns : Nm} {R : AEnd → Store → Prop} (h1 : v = v') (h2 : τ = τ') (h3 : d = d') : endP v τ d σ ns R = endP v' τ' d' σ ns R := by rw [h1, h2, h3]
@[simp] theorem bodyA_panic_eq {P : Program} {rs : List ResultVar} {σ : Store} {ns : Nm} {R : AEnd → Store → Prop} {s : AS} {v : AV} : bodyA P rs σ ns R (.panic v) s = endP v s.st s.dfs σ ns R := nr rfl
theorem endP_intro {v : AV} {τ σ : Store} {ns : Nm} {R : AEnd → Store → Prop} {σ' : Store} (hw : StWeak ns σ τ σ') (hr : R (.panic v) σ') : endP v τ [] σ ns R := ⟨rfl, v, σ', .refl v, hw, hr⟩
theorem endP_same {v : AV} {τ σ : Store} {ns : Nm} {R : AEnd → Store → Prop} (hr : R (.panic v) σ) (hw : restoreS ns [] σ τ = σ) : endP v τ [] σ ns R := ⟨rfl, v, σ, .refl v, .same hw, hr⟩
theorem endA_same {v : AV} {τ σ : Store} {ns : Nm} {R : AEnd → Store → Prop} (hr : R (.ret v) σ) (hw : restoreS ns [] σ τ = σ) : endA (some v) τ [] σ ns R := ⟨rfl, v, rfl, v, σ, .refl v, .same hw, hr⟩
end Go.Abs
namespace Go.Proofs
open Go Go.Abs
attribute [local irreducible] wpc aSeq awAny endA guardK condK CallK callT aPlan onlyL takeL aeffK takeE loopG bodyA thenA inBlockA planK roundG assignG bodyI endI YieldK unrollG endP
theorem bne_t {a b : Int} (h : a ≠ b) : (a != b) = true := by simp [h]
/-- A step. -/
structure Sp where
  kind : Int
  arm : Int
  part : Int
  place : Int
  n : Int
  to0 : J3
  to1 : J3
  deriving DecidableEq
abbrev Sp.cells (s : Sp) : List AV := [.int .i64 s.kind, .int .i64 s.arm, .int .i64 s.part, .int .i64 s.place, .int .i64 s.n, .int .i64 s.to0.a, .int .i64 s.to0.b, .int .i64 s.to0.c, .int .i64 s.to1.a, .int .i64 s.to1.b, .int .i64 s.to1.c]
abbrev Sp.av (s : Sp) : AV := .agg s.cells
def spcs (l : List Sp) : List (List AV) := l.map fun s => [.int .i64 s.kind, .int .i64 s.arm, .int .i64 s.part, .int .i64 s.place, .int .i64 s.n, .int .i64 s.to0.a, .int .i64 s.to0.b, .int .i64 s.to0.c, .int .i64 s.to1.a, .int .i64 s.to1.b, .int .i64 s.to1.c]
@[simp] theorem spcs_length (l : List Sp) : (spcs l).length = l.length := by simp [spcs]
theorem spcs_snoc (l : List Sp) (s : Sp) : spcs (l ++ [s]) = spcs l ++ [s.cells] := by simp [spcs]
/-- The error that a panic bears. -/
abbrev errv (k : Int) : AV := .ifc 50 (.int .i64 k)
theorem must_pure : Pure Tryz.prog 81 [.int .i64 0] (.tup []) := by
  refine pure_val fun σ ns _ => ?_; refine acalls_of_wpc Tryz.mixed Tryz.dr81 Tryz.func81 rfl (Tryz.fit81 _ rfl) Tryz.en81 (fun hσ => ?_); simp [Tryz.ntmps81]
  exact endA_eq (by simp) (by simp)
theorem must_bad (k : Int) (hk : k ≠ 0) (σ : Store) (ns : Nm) : ACalls Tryz.prog 81 [.int .i64 k] σ ns fun e σ' => e = .panic (errv k) ∧ σ' = σ := by
  refine acalls_val fun ns _ hns => ?_; refine acalls_of_wpc Tryz.mixed Tryz.dr81 Tryz.func81 rfl (Tryz.fit81 _ rfl) Tryz.en81 (fun hσ => ?_); simp [Tryz.ntmps81]
  simp [bne_t hk]
  exact endP_same ⟨rfl, rfl⟩ (by simp)
theorem check_pure (k : Int) : Pure Tryz.prog 53 [.bool true, .int .i64 k] (.tup []) := by
  refine pure_val fun σ ns _ => ?_; refine acalls_of_wpc Tryz.mixed Tryz.dr53 Tryz.func53 rfl (Tryz.fit53 _ rfl) Tryz.en53 (fun hσ => ?_); simp [Tryz.ntmps53]
  exact endA_eq (by simp) (by simp)
theorem check_bad (k : Int) (hk : k ≠ 0) (σ : Store) (ns : Nm) : ACalls Tryz.prog 53 [.bool false, .int .i64 k] σ ns fun e σ' => e = .panic (errv k) ∧ σ' = σ := by
  refine acalls_val fun ns _ hns => ?_; refine acalls_of_wpc Tryz.mixed Tryz.dr53 Tryz.func53 rfl (Tryz.fit53 _ rfl) Tryz.en53 (fun hσ => ?_); simp [Tryz.ntmps53]
  refine CallK.of (must_bad k hk _ _) (by rintro v σ' ⟨h, _⟩; cases h) ?_
  rintro v σ' ⟨h, rfl⟩
  injection h with h; subst h
  simp
  exact endP_same ⟨rfl, rfl⟩ (by simp)
/-- A call that checks. -/
theorem check_use {b : Bool} {k : Int} (hk : k ≠ 0) {n : Nm} {dst : Option Tmp} {K : AS → Prop} {Q : AExit → AS → Prop} {s : AS} (h1 : b = true → K (s.put dst (.tup []))) (h2 : b = false → Q (.panic (errv k)) s.bump) :
    CallK Tryz.prog 53 [.bool b, .int .i64 k] n dst K Q s := by
  cases b with
  | true => exact Pure.use (check_pure k) (h1 rfl)
  | false =>
    refine CallK.of (check_bad k hk _ _) (by rintro v σ' ⟨h, _⟩; cases h) ?_
    rintro v σ' ⟨h, rfl⟩
    injection h with h; subst h
    exact h2 rfl
theorem within_pure (n m : Int) : Pure Tryz.prog 133 [.int .i64 n, .int .i64 m] (.bool (decide (0 ≤ n ∧ n < m))) := by
  refine pure_val fun σ ns _ => ?_; refine acalls_of_wpc Tryz.mixed Tryz.dr133 Tryz.func133 rfl (Tryz.fit133 _ rfl) Tryz.en133 (fun hσ => ?_); simp [Tryz.ntmps133]
  (repeat' (first | (refine guardK_cases (fun h => ?_) (fun h => ?_) <;> simp [h]) | (refine condK_cases (fun h => ?_) (fun h => ?_) <;> simp [h])))
  all_goals (refine endA_eq (congrArg AV.bool ?_) (by simp))
  all_goals (refine Bool.eq_iff_iff.2 ?_; simp_all; try omega)
/-- The index of the first. -/
def idxOf (l : List Int) (x : Int) : Nat → Int
  | 0 => -1
  | n + 1 => if idxOf l x n ≥ 0 then idxOf l x n else if iat l n = x then n else -1
theorem index_pure (l : List Int) (x : Int) (hl : l.length ≤ 1000000000) : Pure Tryz.prog 109 [.sl 1 (ics l) .unk, .int .i64 x] (.bool (decide (x ∈ l))) := by
  have idx : Pure Tryz.prog 129 [.sl 1 (ics l) .unk, .int .i64 x] (.int .i64 (if x ∈ l then (l.idxOf x : Int) else -1)) := by
    refine pure_val fun σ ns _ => ?_; refine acalls_of_wpc Tryz.mixed Tryz.dr129 Tryz.func129 rfl (Tryz.fit129 _ rfl) Tryz.en129 (fun hσ => ?_); simp [Tryz.ntmps129]
    refine wpc_loop0 (fun i : Nat => [(4, .any), (5, .any), (8, .any), (9, .any), (10, .any), (11, .any), (12, .any), (13, .any), (14, .any), (15, .any), (16, .any), (17, .any), (18, .any),  (8, .int .i64 i)]) (fun i => l.length - i) (fun i => i ≤ l.length ∧ ∀ j < i, iat l j ≠ x) 0 (by simp) ?_ ?_
    · simp
      (repeat' first | exact AVsle.nil | refine AVsle.cons (AVle.any _) ?_ | refine AVsle.cons (AVle.refl _) ?_ | refine AVsle.cons AVLe.le ?_)
    rintro i r ⟨hi, hm⟩
    simp
    refine condK_cases (fun h => ?_) (fun h => ?_) <;> simp [h] <;> (try simp at h)
    · have hg := ics_get h
      have w : IntKind.wrap .i64 ((i : Int) + 1) = ((i + 1 : Nat) : Int) := wrap64 (by omega) (by omega)
      simp [hg]
      refine condK_cases (fun g => ?_) (fun g => ?_) <;> simp [g] <;> (try simp at g)
      · refine endA_eq ?_ (by simp)
        have hx : l[i] = x := by simpa [iat, h] using g.symm
        have hmem : x ∈ l := hx ▸ List.getElem_mem h
        rw [if_pos hmem]
        have : l.idxOf x = i := by
          have h1 : l.idxOf x ≤ i := by
            rcases Nat.lt_or_ge i (l.idxOf x) with hlt | hge
            · have := List.not_of_lt_findIdx (p := (· == x)) (xs := l) (i := i) hlt
              simp [hx] at this
            · exact hge
          rcases Nat.lt_or_eq_of_le h1 with hlt | he
          · have h2 := hm _ hlt
            have h3 : l.idxOf x < l.length := by omega
            have h4 : l[l.idxOf x] = x := by simp
            exact absurd (by simp [iat, h3]) h2
          · exact he
        rw [this]
      · simp [w]
        (refine loopG_normal (i + 1) (⟨by omega, next_all hm (fun e => g e.symm)⟩) (by omega) ?_ ?_ rfl rfl; rotate_left; exact .of_eq (by simp); simp; (repeat' first | exact AVsle.nil | refine AVsle.cons (AVle.any _) ?_ | refine AVsle.cons (AVle.refl _) ?_ | refine AVsle.cons AVLe.le ?_))
    · obtain rfl : i = l.length := by omega
      refine endA_eq ?_ (by simp)
      rw [if_neg]
      intro hx
      obtain ⟨j, hj, e⟩ := List.getElem_of_mem hx
      exact hm j hj (by simpa [iat, hj] using e)
  refine pure_val fun σ ns _ => ?_; refine acalls_of_wpc Tryz.mixed Tryz.dr109 Tryz.func109 rfl (Tryz.fit109 _ rfl) Tryz.en109 (fun hσ => ?_); simp [Tryz.ntmps109]
  first | refine Pure.use_le (idx) ?_ | refine callT_le (idx) ?_
  simp
  refine endA_eq (congrArg AV.bool ?_) (by simp)
  refine Bool.eq_iff_iff.2 ?_
  by_cases h : x ∈ l <;> simp [h]
theorem Full_pure (w : Ws) (x : Int) (hl : w.wher.length ≤ 1000000000) : Pure Tryz.prog 62 [w.av, .int .i64 x] (.bool (decide (x ∈ w.wher))) := by
  refine pure_val fun σ ns _ => ?_; refine acalls_of_wpc Tryz.mixed Tryz.dr62 Tryz.func62 rfl (Tryz.fit62 _ rfl) Tryz.en62 (fun hσ => ?_); simp [Tryz.ntmps62]
  refine wpc_loop0 (fun i : Nat => [(4, .any), (6, .any), (7, .any), (8, .any), (9, .any), (10, .any), (11, .any), (12, .any), (13, .any), (14, .any), (15, .any), (16, .any), (17, .any), (18, .any), (19, .any), (5, .int .i64 i)]) (fun i => w.wher.length - i) (fun i => i ≤ w.wher.length ∧ ∀ j < i, iat w.wher j ≠ x) 0 (by simp) ?_ ?_
  · simp
    (repeat' first | exact AVsle.nil | refine AVsle.cons (AVle.any _) ?_ | refine AVsle.cons (AVle.refl _) ?_ | refine AVsle.cons AVLe.le ?_)
  rintro i r ⟨hi, hm⟩
  simp
  refine condK_cases (fun h => ?_) (fun h => ?_) <;> simp [h] <;> (try simp at h)
  · have hg := ics_get h
    have w' : IntKind.wrap .i64 ((i : Int) + 1) = ((i + 1 : Nat) : Int) := wrap64 (by omega) (by omega)
    simp [hg]
    refine condK_cases (fun g => ?_) (fun g => ?_) <;> simp [g] <;> (try simp at g)
    · refine endA_eq (congrArg AV.bool (decide_eq_true ?_).symm) (by simp)
      have hx : w.wher[i] = x := by simpa [iat, h] using g
      exact hx ▸ List.getElem_mem h
    · simp [w']
      (refine loopG_normal (i + 1) (⟨by omega, next_all hm g⟩) (by omega) ?_ ?_ rfl rfl; rotate_left; exact .of_eq (by simp); simp; (repeat' first | exact AVsle.nil | refine AVsle.cons (AVle.any _) ?_ | refine AVsle.cons (AVle.refl _) ?_ | refine AVsle.cons AVLe.le ?_))
  · obtain rfl : i = w.wher.length := by omega
    refine endA_eq (congrArg AV.bool (decide_eq_false fun hx => ?_).symm) (by simp)
    obtain ⟨j, hj, e⟩ := List.getElem_of_mem hx
    exact hm j hj (by simpa [iat, hj] using e)
end Go.Proofs
