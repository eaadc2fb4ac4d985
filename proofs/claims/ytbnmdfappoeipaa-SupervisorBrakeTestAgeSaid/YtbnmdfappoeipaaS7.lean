/- Walks: the supervisor's methods. -/
import Derived.Test.YtbnmdfappoeipaaS6
set_option linter.unusedVariables false
set_option linter.unusedSimpArgs false
set_option maxRecDepth 100000
namespace Go.Proofs
open Go Go.Abs
attribute [local irreducible] wpc aSeq awAny endA guardK condK CallK callT aPlan onlyL takeL aeffK takeE loopG bodyA thenA inBlockA planK roundG assignG bodyI endI YieldK unrollG
theorem clone_calls (l : List Vi) (hl : l.length ≤ 1000) (σ : Store) (ns : Nm) : ACalls Try.prog 45 [.sl 4 (vcs l) .unk] σ ns fun e σ' => ∃ c, gok ns σ c (vcs l) ∧ e = .ret (gv 4 c (vcs l)) ∧ σ' = gs σ c := by
  refine acalls_of_wpc Try.mixed Try.dr45 Try.func45 rfl (Try.fit45 _ rfl) Try.en45 (fun hσ => ?_); simp [Try.ntmps45]
  by_cases h0 : l = []
  · subst h0
    simp
    refine condK_any ?_ ?_
    · simp
      exact endA_gen .nilExact (.same (by simp)) ⟨none, rfl, rfl, rfl⟩
    · simp
      exact endA_gen (.refl _) (.same (by simp)) ⟨none, rfl, rfl, rfl⟩
  · have h1 : ¬ vcs l = [] := fun e => h0 (by have := congrArg List.length e; simpa using this)
    simp [h1, show l.length * 32 ≤ 140737488355328 by omega]
    refine endA_intro (StWk.weak (.refl _)) ⟨some ((ns.sub 2).sub 2), gok_some (by simp [Nm.under]) (hσ _ (by simp [Nm.under])), rfl, rfl⟩
structure Wk where
  s : SS
  l : List Vi
  ask : Int
  rest : Bool
  call : Int
abbrev Wk.cells (w : Wk) : List AV := [.int .i64 w.s.mode, .int .i64 w.s.cat, .int .i64 w.s.left, .sl 4 (vcs w.s.ca) .unk, .int .i64 w.s.t0, .int .i64 w.s.t1, .sl 4 (vcs w.l) .unk, .int .i64 w.ask, .bool w.rest, .int .i64 w.call]
/-- A method that turns the work. -/
def MCall (f : FuncId) (args : List AV) (g : Wk → Wk) (ok : Wk → Prop) : Prop := ∀ (w : Wk) (σ : Store) (ns n : Nm), ok w → σ n = some (.var w.cells) → ACalls Try.prog f (.ptr n 0 :: args) σ ns fun e σ' => e = .ret (.tup []) ∧ σ' = σ.up n (.var (g w).cells)
theorem MCall.use {f : FuncId} {args : List AV} {g : Wk → Wk} {ok : Wk → Prop} (h : MCall f args g ok) {w : Wk} {n' : Nm} {m : Nm} {dst : Option Tmp} {K : AS → Prop} {Q : AExit → AS → Prop} {s : AS} (hw : ok w) (hn : s.st n' = some (.var w.cells)) (hk : K ((s.setSt (s.st.up n' (.var (g w).cells))).put dst (.tup []))) : CallK Try.prog f (.ptr n' 0 :: args) m dst K Q s :=
  CallK.use (h w s.st m n' hw hn) hk
theorem out_of {σ : Store} {ns n : Nm} {o : AObj} (hσ : ∀ m, m.under ns = true → σ m = none) (h : σ n = some o) : n.under ns = false := by
  cases hh : n.under ns with
  | false => rfl
  | true => rw [hσ n hh] at h; cases h
/-- The end of a method. -/
theorem endM {σ : Store} {ns n : Nm} {o o' : AObj} (hσ : ∀ m, m.under ns = true → σ m = none) (h : σ n = some o) (τ : Store) (ht : restoreS ns [] σ τ = σ.up n o') : endA (some (.tup [])) τ [] σ ns (fun e σ' => e = .ret (.tup []) ∧ σ' = σ.up n o') := endA_intro (.of_eq ht) ⟨rfl, rfl⟩
theorem endM1 {σ : Store} {ns n : Nm} {o o' o2 : AObj} (hσ : ∀ m, m.under ns = true → σ m = none) (h : σ n = some o) (e : o2 = o') : endA (some (.tup [])) (σ.up n o2) [] σ ns (fun e σ' => e = .ret (.tup []) ∧ σ' = σ.up n o') := by
  subst e
  refine endM hσ h _ ?_
  rw [restoreS_up_out (out_of hσ h)]; simp
theorem endM0 {σ : Store} {ns n : Nm} {o o' : AObj} (hσ : ∀ m, m.under ns = true → σ m = none) (h : σ n = some o) (e : o = o') : endA (some (.tup [])) σ [] σ ns (fun e σ' => e = .ret (.tup []) ∧ σ' = σ.up n o') := by
  subst e
  refine endM hσ h _ ?_
  simp
  funext m; simp only [Store.up]; split
  · rename_i e; rw [e, h]
  · rfl
def Wk.set (w : Wk) (s : SS) : Wk := { w with s := s }
theorem end_pure : MCall 42 [] (fun w => w.set (halt w.s)) (fun _ => True) := by
  intro w σ ns n _ hn
  refine acalls_of_wpc Try.mixed Try.dr42 Try.func42 rfl (Try.fit42 _ rfl) Try.en42 (fun hσ => ?_); simp [Try.ntmps42]
  simp [hn]
  by_cases h : w.s.cat = 2
  · simp [h, hn]
    exact endM1 hσ hn (by simp [halt, Wk.set, h])
  · simp [ne_beq h, hn]
    exact endM1 hσ hn (by simp [halt, Wk.set, h])
theorem dec1 {a : Int} (h : 0 ≤ a ∧ a ≤ 60) : (if 0 < a then a - 1 else a) = if 1 < a then a - 1 else 0 := by split <;> split <;> omega
def WOk (w : Wk) : Prop := SOk w.s ∧ w.l.length ≤ 1000
def Wk.blame (w : Wk) (below : Int) : Wk := w.set { w.s with ca := Proofs.blame w.s.ca w.l below }
theorem blame_m (below : Int) : MCall 44 [.int .i64 below] (fun w => w.blame below) WOk := by
  intro w σ ns n hw hn
  obtain ⟨⟨_, hca, _, _⟩, hl⟩ := hw
  refine acalls_of_wpc Try.mixed Try.dr44 Try.func44 rfl (Try.fit44 _ rfl) Try.en44 (fun hσ => ?_); simp [Try.ntmps44]
  have hf := out_of hσ hn
  have hnn : ∀ x : Nm, x.under ns = true → ¬ n = x := fun x hx e => by subst e; rw [hf] at hx; cases hx
  simp [hn]
  refine CallK.of (clone_calls w.s.ca (by omega) _ _) ?_ (by rintro v σ' ⟨c, _, he, _⟩; cases he)
  rintro v σ' ⟨c0, hok0, he, rfl⟩
  injection he with he
  subst he
  have hok0 : gok ((ns.sub 0).sub 6) σ c0 (vcs w.s.ca) := hok0
  have hok1 : gok ns σ c0 (vcs w.s.ca) := hok0.into (by simp [Nm.under])
  have hc0 : ¬ c0 = some n := hok1.ne (by rw [hn]; simp)
  simp [hn, hc0]
  have hc0' : ∀ m, c0 = some m → ¬ n = m := fun m e e' => hc0 (by rw [e, e'])
  refine wpc_loopGB (fun x : Nat × Option Nm => [(5, .any), (21, .any), (22, .any), (23, .any), (24, .any), (25, .any), (26, .any), (27, .any), (28, .any), (29, .any), (30, .any), (31, .any), (32, .any), (33, .any), (34, .any), (35, .any), (36, .any), (37, .any), (38, .any), (39, .any), (40, .any), (41, .any), (42, .any), (43, .any), (44, .any), (45, .any), (46, .any), (47, .any), (48, .any), (49, .any), (50, .any),  (21, .int .i64 x.1)]) (fun x => σ.up n (.var [.int .i64 w.s.mode, .int .i64 w.s.cat, .int .i64 w.s.left, gv 4 x.2 (vcs (wths w.s.ca w.l below x.1)), .int .i64 w.s.t0, .int .i64 w.s.t1, .sl 4 (vcs w.l) .unk, .int .i64 w.ask, .bool w.rest, .int .i64 w.call]))
    (fun x => x.2) (fun x => vcs (wths w.s.ca w.l below x.1)) (fun x => w.l.length - x.1) (fun x => x.1 ≤ w.l.length) (0, c0) ns ?_ (by simp) ?_ ?_ ?_
  · cases c0 with
    | none => exact hok1
    | some m => exact ⟨hok1.1, by simp only [Store.up_get]; rw [if_neg (fun e => hc0' m rfl e.symm)]; exact hok1.2⟩
  · simp
    (repeat' first | exact AVsle.nil | refine AVsle.cons (AVle.any _) ?_ | refine AVsle.cons (AVle.refl _) ?_ | refine AVsle.cons AVLe.le ?_)
  · refine StWk.grow ?_ (fun m hm => ?_)
    · exact StWk.both (StWk.own_gs (.refl _) hok1.fresh) (.inl rfl)
    · simp only [Store.up_get]; rw [if_neg (fun e => hc0' m hm e.symm)]; exact gs_tok hm
  rintro ⟨i, c⟩ k hi hok hfr hne
  dsimp only at hi hok hfr hne
  have hnc : ¬ c = some n := hne n (.inr (by simp))
  have hr : ∀ x, x.under ((ns.sub 2).sub k) = true → ¬ c = some x := fun x h => hne x (.inl h)
  have hfr' : ∀ x, x.under ((ns.sub 2).sub k) = true → ¬ n = x := fun x hx => hnn x (Nm.under_trans hx (by simp))
  simp
  refine condK_cases (fun h => ?_) (fun h => ?_) <;> simp at h
  · have g := vget h
    have hs := wths_succ (ca := w.s.ca) (below := below) h
    have hlen := wths_len (ca := w.s.ca) (l := w.l) (below := below) (by omega) i
    generalize w.l.getD i v0 = x at g hs
    have w1 : IntKind.wrap .i64 ((i : Int) + 1) = ((i + 1 : Nat) : Int) := wrap64 (by omega) (by omega)
    simp [vcs_get g]
    first | refine Pure.use_le (pCat_pure x) ?_ | refine callT_le (pCat_pure x) ?_
    simp
    by_cases h1 : vcat x < below
    · simp [h1, hok.gnil, hne, hr, hnn]
      by_cases h2 : ((wths w.s.ca w.l below i).length : Int) < 16
      · simp (maxDischargeDepth := 5) [h2, hok.gnil, hr, hne, hnn, w1, show ((wths w.s.ca w.l below i).length + 1) * 32 ≤ 140737488355328 by omega]
        have e : wths w.s.ca w.l below (i + 1) = wths w.s.ca w.l below i ++ [x] := by rw [hs]; unfold wth; rw [if_pos ⟨h1, by omega⟩]
        refine loopG_normal (i + 1, some ((((ns.sub 2).sub k).sub 3).sub 8)) ⟨by simp only; omega, gok_some (by simp [Nm.under]) ?_⟩ (by simp only; omega) ?_ ?_ rfl rfl
        · simp only [Store.up_get]; rw [if_neg (fun e => hfr' _ (by simp [Nm.under]) e.symm)]; exact hσ _ (by simp [Nm.under])
        · simp
          (repeat' first | exact AVsle.nil | refine AVsle.cons (AVle.any _) ?_ | refine AVsle.cons (AVle.refl _) ?_ | refine AVsle.cons AVLe.le ?_)
        · simp only [e, ← vcs_snoc]
          refine StWk.weak (StWk.grow ?_ ?_)
          · refine StWk.over hσ (fun m m1 m2 => ?_) (.inl rfl)
            repeat' first | rw [up_other (ns := ns) (by simp [Nm.under]) m1] | rw [gs_other hok.own m1] | rw [gdel_other hok.own m1] | rw [Store.up_get, if_neg m2]
          · intro m hm
            cases hm
            simp only [Store.up_get]
            rw [if_neg (fun e => hfr' _ (by simp [Nm.under]) e.symm)]
            simp
      · have e : wths w.s.ca w.l below (i + 1) = wths w.s.ca w.l below i := by rw [hs]; unfold wth; rw [if_neg (by omega)]
        simp [h2, w1, hok.gnil]
        refine loopG_normal (i + 1, c) ⟨by simp only; omega, by simp only [e]; exact hok⟩ (by simp only; omega) ?_ (.of_eq (by simp [e])) rfl rfl
        simp
        (repeat' first | exact AVsle.nil | refine AVsle.cons (AVle.any _) ?_ | refine AVsle.cons (AVle.refl _) ?_ | refine AVsle.cons AVLe.le ?_)
    · have e : wths w.s.ca w.l below (i + 1) = wths w.s.ca w.l below i := by rw [hs]; unfold wth; rw [if_neg (by omega)]
      simp [h1, w1]
      refine loopG_normal (i + 1, c) ⟨by simp only; omega, by simp only [e]; exact hok⟩ (by simp only; omega) ?_ (.of_eq (by simp [e])) rfl rfl
      simp
      (repeat' first | exact AVsle.nil | refine AVsle.cons (AVle.any _) ?_ | refine AVsle.cons (AVle.refl _) ?_ | refine AVsle.cons AVLe.le ?_)
  · obtain rfl : i = w.l.length := by omega
    simp
    refine endA_gen (.refl _) (StWk.weak (v := σ.up n (.var (w.blame below).cells)) ?_) ⟨rfl, rfl⟩
    have hle := hok.le (k := 4)
    refine StWk.own_gs (StWk.both (.refl _) (.inr ⟨_, _, rfl, rfl, ?_⟩)) ?_
    · exact .cons (.refl _) (.cons (.refl _) (.cons (.refl _) (.cons hle (AVsle.refl _))))
    · intro m hm
      have := hok.fresh m hm
      simp only [Store.up_get] at this ⊢
      split at this
      · cases this
      · rename_i e; rw [if_neg e]; exact this
theorem stop_m : MCall 41 [] (fun w => w.set { w.s with ca := Proofs.blame w.s.ca w.l 3, mode := 3, cat := w.call, left := 60 }) WOk := by
  intro w σ ns n hw hn
  refine acalls_of_wpc Try.mixed Try.dr41 Try.func41 rfl (Try.fit41 _ rfl) Try.en41 (fun hσ => ?_); simp [Try.ntmps41]
  simp [hn]
  refine MCall.use (blame_m 3) hw (by simp [hn]) ?_
  simp
  exact endM1 hσ hn (by simp [Wk.set, Wk.blame])
theorem worsen_m : MCall 43 [] (fun w => w.set { w.s with ca := Proofs.blame w.s.ca w.l w.s.cat, cat := w.call }) WOk := by
  intro w σ ns n hw hn
  refine acalls_of_wpc Try.mixed Try.dr43 Try.func43 rfl (Try.fit43 _ rfl) Try.en43 (fun hσ => ?_); simp [Try.ntmps43]
  simp [hn]
  refine MCall.use (blame_m w.s.cat) hw (by simp [hn]) ?_
  simp
  exact endM1 hσ hn (by simp [Wk.set, Wk.blame])
end Go.Proofs
