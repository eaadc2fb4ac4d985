/- Walks: the reference's tick. -/
import Derived.Test.YtbnmdfappoeipaaS2
set_option linter.unusedVariables false
set_option linter.unusedSimpArgs false
set_option maxRecDepth 100000
namespace Go.Proofs
open Go Go.Abs
attribute [local irreducible] wpc aSeq awAny endA guardK condK CallK callT aPlan onlyL takeL aeffK takeE loopG bodyA thenA inBlockA planK roundG assignG bodyI endI YieldK unrollG
def mn (a b : Int) : Int := if b < a then b else a
theorem mn_eq (a b : Int) : (if b < a then b else a) = mn a b := rfl
def worstOf (l : List Vi) (n : Nat) : Int := (l.take n).foldl (fun c v => mn c (vcat v)) 3
theorem mn_le (a b : Int) : mn a b ≤ a ∧ mn a b ≤ b := by unfold mn; split <;> omega
theorem worstOf_succ {l : List Vi} {i : Nat} (h : i < l.length) : worstOf l (i + 1) = mn (worstOf l i) (vcat (l.getD i v0)) := by
  unfold worstOf; rw [vtake h, List.foldl_append]; rfl
def vmin (l : List Vi) : Int := worstOf l l.length
def dem (l : List Vi) (ask : Int) : Int := if ask = 2 then mn (vmin l) 2 else if ask = 3 then mn (vmin l) 1 else vmin l
theorem call_pure (l : List Vi) (ask : Int) (hl : l.length ≤ 1000) : Pure Try.prog 29 [.sl 4 (vcs l) .unk, .int .i64 ask] (.int .i64 (dem l ask)) := by
  intro σ ns; refine acalls_of_wpc Try.mixed Try.dr29 Try.func29 rfl (Try.fit29 _ rfl) Try.en29 (fun hσ => ?_); simp [Try.ntmps29]
  refine wpc_loop0 (fun i : Nat => [(5, .any), (6, .any), (7, .any), (8, .any), (9, .any), (10, .any), (11, .any), (12, .any), (13, .any), (14, .any), (15, .any), (16, .any), (17, .any), (18, .any), (19, .any),  (5, .int .i64 (worstOf l i)), (6, .int .i64 i)]) (fun i => l.length - i) (fun i => i ≤ l.length) 0 (by simp) ?_ ?_
  · simp [worstOf]
    (repeat' first | exact AVsle.nil | refine AVsle.cons (AVle.any _) ?_ | refine AVsle.cons (AVle.refl _) ?_ | refine AVsle.cons AVLe.le ?_)
  rintro i k hi
  simp
  refine condK_cases (fun h => ?_) (fun h => ?_) <;> simp at h
  · have g := vget h
    have hs := worstOf_succ h
    generalize l.getD i v0 = x at g hs
    have w1 : IntKind.wrap .i64 ((i : Int) + 1) = ((i + 1 : Nat) : Int) := wrap64 (by omega) (by omega)
    simp [vcs_get g]
    first | refine Pure.use_le (rCat_pure x) ?_ | refine callT_le (rCat_pure x) ?_
    simp [w1]
    refine loopG_normal (i + 1) (by omega) (by omega) ?_ (StWk.weak (.refl _)) rfl rfl
    rw [hs]
    simp
    (repeat' first | exact AVsle.nil | refine AVsle.cons (AVle.any _) ?_ | refine AVsle.cons (AVle.refl _) ?_ | refine AVsle.cons AVLe.le ?_)
  · obtain rfl : i = l.length := by omega
    simp
    by_cases h2 : ask = 2
    · simp [h2]
      exact endA_eq (by simp [dem, h2, vmin]; rfl) (by simp)
    by_cases h3 : ask = 3
    · simp [h3]
      exact endA_eq (by simp [dem, h3, vmin]; rfl) (by simp)
    simp [ne_beq h2, ne_beq h3]
    exact endA_eq (by simp [dem, h2, h3, vmin]) (by simp)
def wth (below : Int) (out : List Vi) (v : Vi) : List Vi := if vcat v < below ∧ out.length < 16 then out ++ [v] else out
def wths (ca l : List Vi) (below : Int) (n : Nat) : List Vi := (l.take n).foldl (wth below) ca
theorem wths_succ {ca l : List Vi} {below : Int} {i : Nat} (h : i < l.length) : wths ca l below (i + 1) = wth below (wths ca l below i) (l.getD i v0) := by
  unfold wths; rw [vtake h, List.foldl_append]; rfl
theorem wths_len {ca l : List Vi} {below : Int} (hc : ca.length ≤ 1000) (n : Nat) : (wths ca l below n).length ≤ 1000 := by
  unfold wths
  generalize l.take n = m
  induction m generalizing ca with
  | nil => exact hc
  | cons v m ih =>
    refine ih (ca := wth below ca v) ?_
    unfold wth; split
    · simp; omega
    · exact hc
def blame (ca l : List Vi) (below : Int) : List Vi := wths ca l below l.length
set_option maxHeartbeats 4000000 in
theorem with_pure (ca l : List Vi) (below : Int) (hc : ca.length ≤ 1000) (hl : l.length ≤ 1000) : Pure Try.prog 39 [.sl 4 (vcs ca) .unk, .sl 4 (vcs l) .unk, .int .i64 below] (.sl 4 (vcs (blame ca l below)) .unk) := by
  intro σ ns; refine acalls_of_wpc Try.mixed Try.dr39 Try.func39 rfl (Try.fit39 _ rfl) Try.en39 (fun hσ => ?_); simp [Try.ntmps39]
  simp [show ca.length * 32 ≤ 140737488355328 by omega]
  have hn0 : σ ((ns.sub 1).sub 2) = none := hσ _ (by simp)
  have hok0 : gok ns σ (gnew (vcs ca) ((ns.sub 1).sub 2)) (vcs ca) := gnew_ok (by simp) hn0
  refine wpc_loopGr' (ns0 := ns) (fun x : Nat × Option Nm => [(7, .any), (8, .any), (12, .any), (13, .any), (14, .any), (15, .any), (16, .any), (17, .any), (18, .any), (19, .any), (20, .any), (21, .any), (22, .any), (23, .any), (24, .any), (25, .any), (26, .any), (27, .any), (28, .any), (29, .any), (30, .any), (31, .any), (32, .any), (33, .any), (34, .any), (35, .any), (36, .any),  (7, gv 4 x.2 (vcs (wths ca l below x.1))), (8, .int .i64 x.1)]) (fun x => x.2) (fun x => vcs (wths ca l below x.1)) (fun x => l.length - x.1) (fun x => x.1 ≤ l.length) (0, gnew (vcs ca) ((ns.sub 1).sub 2)) rfl hok0 (by simp) ?_ ?_
  · simp [wths]
    (repeat' first | exact AVsle.nil | refine AVsle.cons (AVle.any _) ?_ | refine AVsle.cons (AVle.refl _) ?_ | refine AVsle.cons AVLe.le ?_)
  rintro ⟨i, c⟩ k hi hok hfr hne
  dsimp only at hi hok hne
  simp
  refine condK_cases (fun h => ?_) (fun h => ?_) <;> simp at h
  · have g := vget h
    have hs := wths_succ (ca := ca) (below := below) h
    have hlen := wths_len (l := l) (below := below) hc i
    generalize l.getD i v0 = x at g hs
    have w1 : IntKind.wrap .i64 ((i : Int) + 1) = ((i + 1 : Nat) : Int) := wrap64 (by omega) (by omega)
    simp [vcs_get g]
    first | refine Pure.use_le (rCat_pure x) ?_ | refine callT_le (rCat_pure x) ?_
    simp
    by_cases h1 : vcat x < below
    · simp [h1, hok.gnil]
      by_cases h2 : ((wths ca l below i).length : Int) < 16
      · simp [h2, vcs_get g, hok.gnil, w1, show ((wths ca l below i).length + 1) * 32 ≤ 140737488355328 by omega]
        have e : wths ca l below (i + 1) = wths ca l below i ++ [x] := by rw [hs]; unfold wth; rw [if_pos ⟨h1, by omega⟩]
        refine loopG_normal (i + 1, some ((((ns.sub 3).sub k).sub 2).sub 6)) ⟨by simp only; omega, gok_some (by simp [Nm.under]) (hfr _ (by simp [Nm.under]))⟩ (by simp only; omega) ?_ ?_ rfl rfl
        · simp only [e, ← vcs_snoc]
          simp
          (repeat' first | exact AVsle.nil | refine AVsle.cons (AVle.any _) ?_ | refine AVsle.cons (AVle.refl _) ?_ | refine AVsle.cons AVLe.le ?_)
        · (dsimp only; refine StWk.weak (StWk.grow ?_ ?_); rotate_left; (intro m hm; cases hm; simp); (repeat' first | exact StWk.refl _ | refine StWk.own_up ?_ (by first | exact hfr _ (by simp [Nm.under]) | simp [hfr]) | refine StWk.own_gdel ?_ hok.fresh | refine StWk.own_gs ?_ hok.fresh))
      · have e : wths ca l below (i + 1) = wths ca l below i := by rw [hs]; unfold wth; rw [if_neg (by omega)]
        simp [h2, w1, hok.gnil]
        refine loopG_normal (i + 1, c) ⟨by simp only; omega, by rw [e]; exact hok⟩ (by simp only; omega) ?_ (StWk.weak (.refl _)) rfl rfl
        simp [e]
        (repeat' first | exact AVsle.nil | refine AVsle.cons (AVle.any _) ?_ | refine AVsle.cons (AVle.refl _) ?_ | refine AVsle.cons AVLe.le ?_)
    · have e : wths ca l below (i + 1) = wths ca l below i := by rw [hs]; unfold wth; rw [if_neg (by omega)]
      simp [h1, w1]
      refine loopG_normal (i + 1, c) ⟨by simp only; omega, by rw [e]; exact hok⟩ (by simp only; omega) ?_ (StWk.weak (.refl _)) rfl rfl
      simp [e]
      (repeat' first | exact AVsle.nil | refine AVsle.cons (AVle.any _) ?_ | refine AVsle.cons (AVle.refl _) ?_ | refine AVsle.cons AVLe.le ?_)
  · obtain rfl : i = l.length := by omega
    simp
    refine endA_weak hok.le (StWeak.same ?_)
    rw [restoreS_gs hok.own]
    simp
end Go.Proofs
