/- Walks: sequences of inputs. -/
import Derived.Test.YtbnmdfappoeipaaS5
set_option linter.unusedVariables false
set_option linter.unusedSimpArgs false
set_option maxRecDepth 100000
namespace Go.Proofs
open Go Go.Abs
attribute [local irreducible] wpc aSeq awAny endA guardK condK CallK callT aPlan onlyL takeL aeffK takeE loopG bodyA thenA inBlockA planK roundG assignG bodyI endI YieldK unrollG
/-! Sequences of inputs. -/
structure Tk where
  l : List Vi
  ask : Int
  rest : Bool
abbrev Tk.cells (t : Tk) : List AV := [.sl 4 (vcs t.l) .unk, .int .i64 t.ask, .bool t.rest]
abbrev Tk.av (t : Tk) : AV := .agg t.cells
def tcs (l : List Tk) : List (List AV) := l.map Tk.cells
@[simp] theorem tcs_len (l : List Tk) : (tcs l).length = l.length := by simp [tcs]
def tk0 : Tk := ⟨[], 0, false⟩
theorem tget {l : List Tk} {i : Nat} (h : i < l.length) : l[i]? = some (l.getD i tk0) := by
  rw [List.getElem?_eq_getElem h]; simp [List.getD, h]
theorem tcs_get {l : List Tk} {i : Nat} {t : Tk} (h : l[i]? = some t) : (tcs l)[i]? = some [.sl 4 (vcs t.l) .unk, .int .i64 t.ask, .bool t.rest] := by
  simp [tcs, h]
theorem ttake {l : List Tk} {i : Nat} (h : i < l.length) : l.take (i + 1) = l.take i ++ [l.getD i tk0] := by
  rw [List.take_succ_eq_append_getElem h]; simp [List.getD, h]
theorem tmem {l : List Tk} {i : Nat} (h : i < l.length) : l.getD i tk0 ∈ l := by
  simp [List.getD, h]
def great (l : List Tk) : Bool := decide (300 < l.length) || l.any fun t => decide (40 < t.l.length)
theorem great_false {l : List Tk} (h : great l = false) : l.length ≤ 300 ∧ ∀ t ∈ l, t.l.length ≤ 40 := by
  simp [great] at h; exact h
theorem great_pure (l : List Tk) : Pure Try.prog 11 [.sl 3 (tcs l) .unk] (.bool (great l)) := by
  intro σ ns; refine acalls_of_wpc Try.mixed Try.dr11 Try.func11 rfl (Try.fit11 _ rfl) Try.en11 (fun hσ => ?_); simp [Try.ntmps11]
  by_cases h : (300 : Int) < l.length
  · simp [h]
    exact endA_eq (by simp [great]; omega) (by simp)
  simp [h]
  refine wpc_loop0 (fun i : Nat => [(2, .any), (3, .any), (7, .any), (8, .any), (9, .any), (10, .any), (11, .any), (12, .any), (13, .any), (14, .any), (15, .any), (16, .any), (17, .any), (18, .any), (19, .any),  (3, .int .i64 i)]) (fun i => l.length - i) (fun i => i ≤ l.length ∧ ∀ t ∈ l.take i, t.l.length ≤ 40) 0 (by simp) ?_ ?_
  · simp
    (repeat' first | exact AVsle.nil | refine AVsle.cons (AVle.any _) ?_ | refine AVsle.cons (AVle.refl _) ?_ | refine AVsle.cons AVLe.le ?_)
  rintro i k ⟨hi, hs⟩
  simp
  refine condK_cases (fun h => ?_) (fun h => ?_) <;> simp at h
  · have g := tget h
    have ht := ttake h
    have hm := tmem h
    generalize l.getD i tk0 = x at g ht hm
    have w1 : IntKind.wrap .i64 ((i : Int) + 1) = ((i + 1 : Nat) : Int) := wrap64 (by omega) (by omega)
    simp [tcs_get g]
    by_cases h2 : (40 : Int) < x.l.length
    · simp [h2]
      refine endA_eq ?_ (by simp)
      have : great l = true := by
        simp only [great, Bool.or_eq_true, List.any_eq_true, decide_eq_true_eq]
        exact .inr ⟨x, hm, by omega⟩
      rw [this]
    · simp [h2, w1]
      refine loopG_normal (i + 1) ⟨by omega, ?_⟩ (by omega) ?_ (StWk.weak (.refl _)) rfl rfl
      · intro t ht'
        rw [ht] at ht'
        rcases List.mem_append.1 ht' with h' | h'
        · exact hs t h'
        · simp at h'; rw [h']; omega
      · simp
        (repeat' first | exact AVsle.nil | refine AVsle.cons (AVle.any _) ?_ | refine AVsle.cons (AVle.refl _) ?_ | refine AVsle.cons AVLe.le ?_)
  · rw [List.take_of_length_le (by omega)] at hs
    simp
    refine endA_eq ?_ (by simp)
    have : great l = false := by
      simp only [great, Bool.or_eq_false_iff, decide_eq_false_iff_not, List.any_eq_false]
      exact ⟨by omega, fun t ht => by have := hs t ht; simp; omega⟩
    rw [this]
theorem asks_pure (l : List Vi) (hl : l.length ≤ 1000) : Pure Try.prog 24 [.sl 4 (vcs l) .unk] (.int .i64 (vmin l)) := by
  intro σ ns; refine acalls_of_wpc Try.mixed Try.dr24 Try.func24 rfl (Try.fit24 _ rfl) Try.en24 (fun hσ => ?_); simp [Try.ntmps24]
  refine wpc_loop0 (fun i : Nat => [(3, .any), (4, .any), (5, .any), (6, .any), (7, .any), (8, .any), (9, .any), (10, .any), (11, .any), (12, .any), (13, .any), (14, .any), (15, .any), (16, .any), (17, .any),  (3, .int .i64 (worstOf l i)), (4, .int .i64 i)]) (fun i => l.length - i) (fun i => i ≤ l.length) 0 (by simp) ?_ ?_
  · simp [worstOf]
    (repeat' first | exact AVsle.nil | refine AVsle.cons (AVle.any _) ?_ | refine AVsle.cons (AVle.refl _) ?_ | refine AVsle.cons AVLe.le ?_)
  rintro i k hi
  simp
  refine condK_cases (fun h => ?_) (fun h => ?_) <;> simp at h
  · have g := vget h
    have hs := worstOf_succ h
    generalize l.getD i v0 = x at g hs
    have w1 : IntKind.wrap .i64 ((i : Int) + 1) = ((i + 1 : Nat) : Int) := wrap64 (by omega) (by omega)
    simp [vcs_get g]
    first | refine Pure.use_le (pCat_pure x) ?_ | refine callT_le (pCat_pure x) ?_
    simp [w1]
    refine loopG_normal (i + 1) (by omega) (by omega) ?_ (StWk.weak (.refl _)) rfl rfl
    rw [hs]
    simp
    (repeat' first | exact AVsle.nil | refine AVsle.cons (AVle.any _) ?_ | refine AVsle.cons (AVle.refl _) ?_ | refine AVsle.cons AVLe.le ?_)
  · obtain rfl : i = l.length := by omega
    simp
    exact endA_eq (by simp [vmin]) (by simp)
/-! Plain: what a tick keeps. -/
theorem sval_iff {s : SS} : sval s = true ↔ SOk s ∧ (((s.mode = 1 ∨ s.mode = 2) ∧ s.cat = 0 ∧ s.left = 0 ∧ s.ca.length = 0) ∨ (s.mode = 3 ∧ 0 ≤ s.cat ∧ s.cat ≤ 2) ∨ (s.mode = 4 ∧ (0 ≤ s.cat ∧ s.cat ≤ 1) ∧ s.left = 0) ∨ (s.mode = 5 ∧ s.cat = 2 ∧ s.left = 0)) := by
  have key : sval s = true ↔ ((((0 ≤ s.left ∧ s.left ≤ 60) ∧ s.ca.length ≤ 16) ∧ 0 ≤ s.t0 ∧ s.t0 ≤ 1073741824) ∧ 0 ≤ s.t1 ∧ s.t1 ≤ 1073741824) ∧ (if s.mode = 1 ∨ s.mode = 2 then (s.cat == 0) && (s.left == 0) && ((s.ca.length : Int) == 0) else if s.mode = 3 then wi s.cat 0 2 else if s.mode = 4 then wi s.cat 0 1 && (s.left == 0) else if s.mode = 5 then (s.cat == 2) && (s.left == 0) else false) = true := by
    simp only [sval, wi, Bool.and_eq_true, decide_eq_true_eq]
  rw [key]
  constructor
  · rintro ⟨⟨⟨⟨h1, h2⟩, h3⟩, h4⟩, h5⟩
    refine ⟨⟨h1, h2, h3, h4⟩, ?_⟩
    split at h5
    · simp at h5; exact .inl ⟨by assumption, h5.1.1, h5.1.2, by rw [h5.2]; rfl⟩
    · split at h5
      · simp [wi] at h5; exact .inr (.inl ⟨by assumption, h5⟩)
      · split at h5
        · simp [wi] at h5; exact .inr (.inr (.inl ⟨by assumption, h5.1, h5.2⟩))
        · split at h5
          · simp at h5; exact .inr (.inr (.inr ⟨by assumption, h5.1, h5.2⟩))
          · cases h5
  · rintro ⟨⟨h1, h2, h3, h4⟩, h5⟩
    refine ⟨⟨⟨⟨h1, h2⟩, h3⟩, h4⟩, ?_⟩
    rcases h5 with ⟨hm, a, b, c⟩ | ⟨hm, a⟩ | ⟨hm, a, b⟩ | ⟨hm, a, b⟩
    · rw [if_pos hm]; simp [a, b]; exact List.length_eq_zero_iff.1 c
    · rw [if_neg (by omega), if_pos hm]; simp [wi, a]
    · rw [if_neg (by omega), if_neg (by omega), if_pos hm]; simp [wi, a, b]
    · rw [if_neg (by omega), if_neg (by omega), if_neg (by omega), if_pos hm]; simp [a, b]
theorem wth16 {below : Int} {out : List Vi} {v : Vi} (h : out.length ≤ 16) : (wth below out v).length ≤ 16 := by
  unfold wth; split
  · simp; omega
  · exact h
theorem blame16 {ca l : List Vi} {below : Int} (h : ca.length ≤ 16) : (blame ca l below).length ≤ 16 := by
  unfold blame wths
  generalize l.take l.length = m
  induction m generalizing ca with
  | nil => exact h
  | cons v m ih => exact ih (wth16 h)
theorem tk_bd {t : Int} (h : 0 ≤ t ∧ t ≤ 1073741824) : 0 ≤ tk t ∧ tk t ≤ 1073741824 := by unfold tk; split <;> omega
theorem worst_bd (l : List Vi) (n : Nat) : 0 ≤ worstOf l n ∧ worstOf l n ≤ 3 := by
  unfold worstOf
  have key : ∀ (m : List Vi) (c : Int), 0 ≤ c → c ≤ 3 → 0 ≤ m.foldl (fun c v => mn c (vcat v)) c ∧ m.foldl (fun c v => mn c (vcat v)) c ≤ 3 := by
    intro m
    induction m with
    | nil => intro c h1 h2; exact ⟨h1, h2⟩
    | cons v m ih =>
      intro c h1 h2
      have := vcat_bd v
      exact ih (mn c (vcat v)) (by unfold mn; split <;> omega) (by unfold mn; split <;> omega)
  exact key _ 3 (by omega) (by omega)
theorem dem_bd (l : List Vi) (ask : Int) : 0 ≤ dem l ask ∧ dem l ask ≤ 3 := by
  have := worst_bd l l.length
  unfold dem vmin mn; repeat' split
  all_goals omega
theorem runS_valid {s : SS} (l : List Vi) (ask : Int) (rest : Bool) (h : sval s = true) : sval (runS s l ask rest) = true := by
  obtain ⟨⟨h1, h2, h3, h4⟩, h5⟩ := sval_iff.1 h
  have d := dem_bd l ask
  have k3 := tk_bd h3
  have k4 := tk_bd h4
  have b0 : (blame [] l 3).length ≤ 16 := blame16 (by simp)
  have b1 : (blame s.ca l s.cat).length ≤ 16 := blame16 h2
  refine sval_iff.2 ?_
  unfold runS
  generalize dem l ask = c at d
  split
  · unfold goingS halt tickS
    repeat' split
    all_goals refine ⟨⟨?_, ?_, ?_, ?_⟩, ?_⟩
    all_goals dsimp only at *
    all_goals omega
  · split
    · unfold stoppingS halt tickS
      simp only
      repeat' split
      all_goals refine ⟨⟨?_, ?_, ?_, ?_⟩, ?_⟩
      all_goals dsimp only at *
      all_goals omega
    · unfold stillS tickS
      simp only
      repeat' split
      all_goals refine ⟨⟨?_, ?_, ?_, ?_⟩, ?_⟩
      all_goals dsimp only [List.length_nil] at *
      all_goals omega
theorem finS_valid {w : SS} (rest : Bool) (h : sval w = true) : sval (finS w rest) = true := by
  unfold finS
  split
  · obtain ⟨⟨h1, h2, h3, h4⟩, h5⟩ := sval_iff.1 h
    exact sval_iff.2 ⟨⟨h1, h2, by simp, by simp⟩, h5⟩
  · exact h
theorem stepS_valid {s : SS} (l : List Vi) (ask : Int) (rest : Bool) (h : sval s = true) : sval (stepS s l ask rest) = true := finS_valid rest (runS_valid l ask rest h)
theorem s0_valid : sval s0 = true := by decide
/-- The state after n inputs. -/
def after (s : SS) (l : List Tk) (n : Nat) : SS := (l.take n).foldl (fun s t => stepS s t.l t.ask t.rest) s
theorem after_succ {s : SS} {l : List Tk} {i : Nat} (h : i < l.length) : after s l (i + 1) = stepS (after s l i) (l.getD i tk0).l (l.getD i tk0).ask (l.getD i tk0).rest := by
  unfold after; rw [ttake h, List.foldl_append]; rfl
theorem after_valid {s : SS} (h : sval s = true) (l : List Tk) (n : Nat) : sval (after s l n) = true := by
  unfold after
  generalize l.take n = m
  induction m generalizing s with
  | nil => exact h
  | cons t m ih => exact ih (stepS_valid t.l t.ask t.rest h)
set_option maxHeartbeats 4000000 in
theorem behind_pure (l : List Tk) (hg : great l = false) : Pure Try.prog 23 [.sl 3 (tcs l) .unk] (after s0 l l.length).av := by
  have hgr := great_false hg
  intro σ ns; refine acalls_of_wpc Try.mixed Try.dr23 Try.func23 rfl (Try.fit23 _ rfl) Try.en23 (fun hσ => ?_); simp [Try.ntmps23]
  first | refine Pure.use_le (rNew_pure) ?_ | refine callT_le (rNew_pure) ?_
  simp
  refine wpc_loop (fun i : Nat => [(4, .any), (5, .any), (6, .any), (8, .any), (9, .any), (10, .any), (11, .any), (12, .any), (13, .any), (14, .any), (15, .any), (16, .any), (17, .any), (18, .any), (19, .any), (20, .any), (21, .any), (22, .any), (23, .any), (24, .any), (25, .any), (26, .any), (27, .any), (28, .any), (29, .any), (30, .any), (31, .any), (32, .any), (33, .any), (34, .any),  (4, .int .i64 i)]) (fun i => (σ.up ((ns.sub 0).sub 0) (.var [.int .i64 0, .int .i64 0, .int .i64 0, .sl 0 [] .nil, .int .i64 0, .int .i64 0])).up ((ns.sub 1).sub 1) (.var (after s0 l i).cells)) (fun i => l.length - i) (fun i => i ≤ l.length) 0 (by simp) ?_ ?_ ?_
  · simp
    (repeat' first | exact AVsle.nil | refine AVsle.cons (AVle.any _) ?_ | refine AVsle.cons (AVle.refl _) ?_ | refine AVsle.cons AVLe.le ?_)
  · exact StWk.refl _
  rintro i k hi
  simp
  refine condK_cases (fun h => ?_) (fun h => ?_) <;> simp at h
  · have g := tget h
    have hs := after_succ (s := s0) h
    have hm := hgr.2 _ (tmem h)
    have hv := (sval_iff.1 (after_valid s0_valid l i)).1
    generalize l.getD i tk0 = x at g hs hm
    have w1 : IntKind.wrap .i64 ((i : Int) + 1) = ((i + 1 : Nat) : Int) := wrap64 (by omega) (by omega)
    simp [tcs_get g]
    first | refine Pure.use_le (rStep_pure (after s0 l i) x.l x.ask x.rest (by omega) hv) ?_ | refine callT_le (rStep_pure (after s0 l i) x.l x.ask x.rest (by omega) hv) ?_
    simp [w1]
    refine loopG_normal (i + 1) (by omega) (by omega) ?_ ?_ rfl rfl
    · simp
      (repeat' first | exact AVsle.nil | refine AVsle.cons (AVle.any _) ?_ | refine AVsle.cons (AVle.refl _) ?_ | refine AVsle.cons AVLe.le ?_)
    · rw [hs]
      (try dsimp only; refine StWk.weak ?_; repeat' first | exact StWk.refl _ | refine StWk.up_same ?_ (by simp) | refine StWk.own_up ?_ (hσ _ (by simp [Nm.under])))
  · obtain rfl : i = l.length := by omega
    simp
    exact endA_eq (by simp) (by simp)
end Go.Proofs
