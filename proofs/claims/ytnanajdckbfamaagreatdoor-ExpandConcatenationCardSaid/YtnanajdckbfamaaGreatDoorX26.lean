/- Expansion: the walk of ExpandConcatenation. -/
import Derived.Test.YtnanajdckbfamaaGreatDoorX22
import Derived.Test.YtnanajdckbfamaaGreatDoorMG
set_option linter.unusedVariables false
set_option linter.unusedSimpArgs false
set_option maxRecDepth 100000
namespace Go.Proofs
open Go Go.Abs
attribute [local irreducible] wpc aSeq awAny endA guardK condK CallK callT aPlan onlyL takeL aeffK takeE loopG bodyA thenA inBlockA planK roundG assignG bodyI endI YieldK unrollG endP
def tok2 (a b : List (List AV)) (n m : Nm) : Option Nm := if b = [] then gnew a n else some m
theorem tok2_nil {a b : List (List AV)} {n m : Nm} (h : tok2 a b n m = none) : a ++ b = [] := by
  unfold tok2 gnew at h
  split at h
  · rename_i hb
    split at h
    · rename_i ha; subst hb; simpa using ha
    · cases h
  · cases h
theorem tok2_mem {a b : List (List AV)} {n m x : Nm} (h : tok2 a b n m = some x) : x = n ∨ x = m := by
  unfold tok2 gnew at h
  split at h
  · split at h
    · cases h
    · injection h with h; exact .inl h.symm
  · injection h with h; exact .inr h.symm
theorem aappend_two {B : Store} {n m : Nm} {a b : List Sp} (hz : (a.length + b.length) * 88 ≤ 140737488355328) (hn : B n = none) (hnm : ¬ n = m) :
    aappend Tryz.prog m (gs B (gnew (spcs a) n)) #[49, 49] (gv 11 (gnew (spcs a) n) (spcs a)) (.sl 11 (spcs b) .unk) = some (gv 11 (tok2 (spcs a) (spcs b) n m) (spcs (a ++ b)), gs B (tok2 (spcs a) (spcs b) n m)) := by
  have hone : ∀ x ∈ spcs b, ∀ y ∈ x, y.one = true := by
    intro x hx y hy
    obtain ⟨z, _, rfl⟩ := List.mem_map.1 hx
    simp at hy
    rcases hy with rfl | rfl | rfl | rfl | rfl | rfl | rfl | rfl | rfl | rfl | rfl <;> rfl
  have hgn : GNil (gnew (spcs a) n) (spcs a) := fun e => by unfold gnew at e; split at e; (rename_i h; simpa using h); cases e
  have hB : ∀ x, gnew (spcs a) n = some x → x = n := fun x e => by unfold gnew at e; split at e; cases e; injection e with e; exact e.symm
  have hap : spcs (a ++ b) = spcs a ++ spcs b := by simp [spcs]
  rw [aappend_gv (by simp) hgn, hap]
  unfold tok2
  generalize gnew (spcs a) n = t0 at *
  simp [hz]
  rw [if_pos hone]
  by_cases he : spcs b = []
  · rw [if_pos he, he]; simp
  · rw [if_neg he, if_neg he]
    congr 1
    refine Prod.ext rfl ?_
    simp only [gs_some]
    congr 1
    funext x
    by_cases hm : t0 = some x
    · rw [gdel_tok hm, hB x hm]; exact hn.symm
    · rw [gdel_get hm, gs_get hm]
theorem great13_right {c : Ce} {l : List Wd} (h : great13 c l = false) : RightC c ∧ l.length ≤ 40 := by
  unfold great13 at h
  simp at h
  exact ⟨of_decide_eq_true h.1.2, h.2⟩
set_option maxHeartbeats 4000000 in
theorem concat_pure (c : Ce) (l : List Wd) (hok : ∀ x ∈ l, WdOk x) (k : List Wd) (hok' : ∀ x ∈ k, WdOk x) : PureG 6 [c.av, .sl 11 (wdcs l) .unk, .sl 11 (wdcs k) .unk] (.bool true) := by
  refine pureG_val fun σ ns gl go _ hgo hg => ?_
  refine acalls_of_wpc Tryz.mixed Tryz.dr6 Tryz.func6 rfl (Tryz.fit6 _ rfl) Tryz.en6 (fun hσ => ?_); simp [Tryz.ntmps6]
  have hgg := ne_own hσ hg
  have hg2 := own_ne hσ hg
  refine head13_pure.use (gl := gl) hgo (by simp [hg, hgg, hg2]) ?_
  simp
  first | refine Pure.use_le (Great13_pure c l) ?_ | refine callT_le (Great13_pure c l) ?_
  simp
  refine guardK_cases (fun h1 => ?_) (fun h1 => ?_) <;> simp [h1]
  · exact endA_eq rfl (by simp)
  first | refine Pure.use_le (Great13_pure c k) ?_ | refine callT_le (Great13_pure c k) ?_
  simp
  refine guardK_cases (fun h2 => ?_) (fun h2 => ?_) <;> simp [h2]
  · exact endA_eq rfl (by simp)
  refine guardK_cases (fun h3 => ?_) (fun h3 => ?_) <;> simp [h3] <;> (try simp at h3)
  · exact endA_eq rfl (by simp)
  refine condK_cases (fun h4 => ?_) (fun h4 => ?_) <;> simp [h4] <;> (try simp at h4)
  · exact endA_eq rfl (by simp)
  obtain ⟨hc, h40⟩ := great13_right h1
  have hpre := first_pre hc
  have hpl : c.parts.length ≤ 1000000 := by have := hc.parts8; omega
  have hl : l.length ≤ 1000000000 := by omega
  have hin := smsOf_in hc l
  have hsl := smsOf_len c l
  have hin' := smsOf_in hc k
  have hsl' := smsOf_len c k
  have hk : k.length ≤ 1000000000 := by omega
  first | refine Pure.use_le (Stmts_pure c hc l hl hok) ?_ | refine callT_le (Stmts_pure c hc l hl hok) ?_
  simp
  first | refine Pure.use_le (Stmts_pure c hc k hk hok') ?_ | refine callT_le (Stmts_pure c hc k hk hok') ?_
  simp
  have hz1 : (smsOf c l).length * 136 ≤ 140737488355328 := by omega
  have hz2 : ((smsOf c l).length + (smsOf c k).length) * 136 ≤ 140737488355328 := by omega
  have hz3 : ∀ e ∈ smcs (smsOf c k), ∀ y ∈ e, y.one = true := by
    intro x hx y hy
    obtain ⟨z, _, rfl⟩ := List.mem_map.1 hx
    simp at hy
    rcases hy with rfl | rfl | rfl | rfl | rfl | rfl | rfl | rfl | rfl | rfl | rfl | rfl | rfl <;> rfl
  have hgn : ∀ n, GNil (gnew (smcs (smsOf c l)) n) (smcs (smsOf c l)) := fun n e => by unfold gnew at e; split at e; (rename_i h; simpa using h); cases e
  have hap : smcs (smsOf c l) ++ smcs (smsOf c k) = smcs (smsOf c l ++ smsOf c k) := by simp [smcs]
  obtain ⟨t, ht1, ht2, ha⟩ : ∃ t, (t = none → smcs (smsOf c l) ++ smcs (smsOf c k) = []) ∧ (∀ m, t = some m → m = (ns.sub 5).sub 2 ∨ m = (ns.sub 5).sub 4) ∧
      aappend Tryz.prog ((ns.sub 5).sub 4) (gs (σ.up ((ns.sub 0).sub 0) (.var c.cells)) (gnew (smcs (smsOf c l)) ((ns.sub 5).sub 2))) #[47, 47] (gv 13 (gnew (smcs (smsOf c l)) ((ns.sub 5).sub 2)) (smcs (smsOf c l))) (.sl 13 (smcs (smsOf c k)) .unk) = some (gv 13 t (smcs (smsOf c l) ++ smcs (smsOf c k)), gs (σ.up ((ns.sub 0).sub 0) (.var c.cells)) t) := by
    have hB : ∀ m, gnew (smcs (smsOf c l)) ((ns.sub 5).sub 2) = some m → m = (ns.sub 5).sub 2 := fun m e => by unfold gnew at e; split at e; cases e; injection e with e; exact e.symm
    have hg0 := hgn ((ns.sub 5).sub 2)
    rw [aappend_gv (by simp) (hgn _)]
    generalize gnew (smcs (smsOf c l)) ((ns.sub 5).sub 2) = t0 at *
    simp [hz2]
    rw [if_pos hz3]
    by_cases he : smcs (smsOf c k) = []
    · rw [if_pos he, he]
      exact ⟨t0, fun e => by simp [hg0 e], fun m e => .inl (hB m e), by simp⟩
    · rw [if_neg he]
      refine ⟨some ((ns.sub 5).sub 4), by simp, fun m e => by injection e with e; exact .inr e.symm, ?_⟩
      congr 1
      refine Prod.ext rfl ?_
      simp only [gs_some]
      congr 1
      funext m
      by_cases hm : t0 = some m
      · rw [gdel_tok hm, hB m hm, Store.up_get, if_neg (by simp)]
        exact (hσ _ (by simp [Nm.under])).symm
      · rw [gdel_get hm, gs_get hm]
  simp [hz1]
  rw [ha]
  have htn : ∀ x, ¬ x = (ns.sub 5).sub 2 → ¬ x = (ns.sub 5).sub 4 → ¬ t = some x := fun x h1 h2 e => by rcases ht2 x e with h | h; exact h1 h; exact h2 h
  have htu : ∀ n, t = some n → n.under ns = true := fun n h => by rcases ht2 n h with rfl | rfl <;> simp [Nm.under]
  have htg : ¬ t = some gl := htn gl (hgg _ (by simp [Nm.under])) (hgg _ (by simp [Nm.under]))
  simp [htn]
  have hall := playT_all (xs := smsOf c l) (l := []) hpre.1 (by simp)
  have hcat := playT_cat hc hpre.1 hin hin' (smsOf_few c l) (smsOf_few c k) (by have := smsOf_le c l; omega) (by have := smsOf_le c k; omega)
  have hbe := playT_behind (c := c) (xs := smsOf c l) (w := first c)
  have r1 := steps_pureG c (smsOf c l) (first c) (fun x hx => (hin x hx).ok) (by omega) hpre
  have r2 := steps_pureG c (smsOf c l ++ smsOf c k) (first c) (fun x hx => by rcases List.mem_append.1 hx with h | h; exact (hin x h).ok; exact (hin' x h).ok) (by simp; omega) hpre
  have r3 := fun (w : Ws) (hw : StOk w c) => steps_pureG c (smsOf c k) w (fun x hx => (hin' x hx).ok) (by omega) ⟨hw, hc⟩
  have h5 := fun (w : Ws) (hw : StOk w c) => playT_all (xs := smsOf c k) (l := []) hw (by simp)
  rw [hcat] at r2
  have h6 := h5 _ hall.1
  have r4 := r3 _ hall.1
  generalize playT c (smsOf c l) (first c) [] = p1 at *
  obtain ⟨⟨w1, l1⟩, e1, k1⟩ := p1
  dsimp only at hall hbe r1 r2 r4 h6
  generalize playT c (smsOf c k) w1 [] = p2 at *
  obtain ⟨⟨w2, l2⟩, e2, k2⟩ := p2
  dsimp only at r2 r4 h6
  first | refine Pure.use_le (First9_pure c hpl) ?_ | refine callT_le (First9_pure c hpl) ?_
  simp [htn]
  apply cut_
  · intro key
    repeat' apply And.intro
    all_goals
      refine (r1.weaken ?_).use (gl := gl) hgo (by simp [hg, hgg, hg2, htg]) ?_
      · (repeat' first | exact AVsle.nil | refine AVsle.cons (AVle.any _) ?_ | refine AVsle.cons (AVle.refl _) ?_ | refine AVsle.cons AVLe.le ?_)
      simp [htn]
      exact key
  first | refine Pure.use_le (First9_pure c hpl) ?_ | refine callT_le (First9_pure c hpl) ?_
  simp [htn]
  have hle : AVsle [c.av, gv 13 t (smcs (smsOf c l) ++ smcs (smsOf c k)), (first c).av] [c.av, .sl 13 (smcs (smsOf c l ++ smsOf c k)) .unk, (first c).av] := by
    rw [← hap]
    exact AVsle.cons (AVle.refl _) (AVsle.cons (gv_le ht1) (AVsle.cons (AVle.refl _) .nil))
  apply cut_
  · intro key
    repeat' apply And.intro
    all_goals
      refine (r2.weaken hle).use (gl := gl) hgo (by simp [hg, hgg, hg2, htg]) ?_
      simp [htn]
      exact key
  by_cases he : e1 = 0
  · simp [he, htn]
    first | refine Pure.use_le (First9_pure c hpl) ?_ | refine callT_le (First9_pure c hpl) ?_
    simp [htn]
    first | refine Pure.use_le (Behind13_pure c (first c) l1 hpre (by omega)) ?_ | refine callT_le (Behind13_pure c (first c) l1 hpre (by omega)) ?_
    rw [hbe]
    simp [htn]
    apply cut_
    · intro key
      repeat' apply And.intro
      all_goals
        refine (r4.weaken ?_).use (gl := gl) hgo (by simp [hg, hgg, hg2, htg]) ?_
        · (repeat' first | exact AVsle.nil | refine AVsle.cons (AVle.any _) ?_ | refine AVsle.cons (AVle.refl _) ?_ | refine AVsle.cons AVLe.le ?_)
        simp [htn]
        exact key
    have hy1 : l1.length * 88 ≤ 140737488355328 := by omega
    simp [htn, hy1]
    rw [aappend_two (by omega) ?hb ?hnm]
    case hb =>
      have := htn ((ns.sub 10).sub 5) (by simp) (by simp)
      simp [this]
      exact hσ _ (by simp [Nm.under])
    case hnm => simp
    have hk1 := fun (h : tok2 (spcs l1) (spcs l2) ((ns.sub 10).sub 5) ((ns.sub 10).sub 7) = none) => tok2_nil h
    have hk2 := fun (x : Nm) (h : tok2 (spcs l1) (spcs l2) ((ns.sub 10).sub 5) ((ns.sub 10).sub 7) = some x) => tok2_mem h
    generalize tok2 (spcs l1) (spcs l2) ((ns.sub 10).sub 5) ((ns.sub 10).sub 7) = t2 at *
    have hkn : ∀ x, ¬ x = (ns.sub 10).sub 5 → ¬ x = (ns.sub 10).sub 7 → ¬ t2 = some x := fun x h1 h2 e => by rcases hk2 x e with h | h; exact h1 h; exact h2 h
    have hku : ∀ n, t2 = some n → n.under ns = true := fun n h => by rcases hk2 n h with rfl | rfl <;> simp [Nm.under]
    simp [htn, hkn]
    have hle2 : AVsle [.sl 11 (spcs (l1 ++ l2)) .unk, gv 11 t2 (spcs (l1 ++ l2))] [.sl 11 (spcs (l1 ++ l2)) .unk, .sl 11 (spcs (l1 ++ l2)) .unk] :=
      AVsle.cons (AVle.refl _) (AVsle.cons (gv_le fun e => by have := hk1 e; simpa [spcs] using this) .nil)
    refine Pure.use ((SameSteps13_pure (l1 ++ l2) (l1 ++ l2) (by simp; omega)).weaken hle2) ?_
    simp [htn, hkn]
    exact endA_eq rfl (by simp [restoreS_gs htu, restoreS_gs hku])
  · simp [he, htn, bne_t he]
    first | refine Pure.use_le (SameSteps13_pure l1 l1 (by omega)) ?_ | refine callT_le (SameSteps13_pure l1 l1 (by omega)) ?_
    simp [he, htn, bne_t he]
    exact endA_eq rfl (by simp [restoreS_gs htu])
end Go.Proofs
