/- Walks: SameMsg, Same, Great, Behind. -/
import Derived.Test.YtfoopknikckojaaW2
set_option linter.unusedVariables false
set_option linter.unusedSimpArgs false
namespace Go.Proofs
open Go Go.Abs
attribute [local irreducible] wpc aSeq awAny endA guardK condK CallK callT aPlan onlyL takeL aeffK takeE loopG bodyA thenA inBlockA
def sameMsg (a b : Msg) : Bool := (a.seq == b.seq && a.kind == b.kind) && (a.nums == b.nums)
set_option maxHeartbeats 4000000 in
theorem SameMsg_pure (a b : Msg) (ha : a.nums.length < 2 ^ 62) : Pure Try.prog 19 [a.av, b.av] (.bool (sameMsg a b)) := by
  intro σ ns
  refine acalls_of_wpc Try.mixed Try.func19 rfl Try.en19 ?_
  simp [Try.ntmps19]
  repeat' first
    | (refine guardK_cases (fun h => ?_) (fun h => ?_) <;> simp [h])
    | (refine condK_cases (fun h => ?_) (fun h => ?_) <;> simp [h])
  · simp at h
    exact endA_eq (by simp [sameMsg, h]) (by simp)
  · simp at h
    exact endA_eq (by simp [sameMsg, h]) (by simp)
  · simp at h
    have hn : ¬ a.nums = b.nums := fun e => h (by rw [e])
    exact endA_eq (by simp [sameMsg, hn]) (by simp)
  · rename_i h1 h2
    simp at h h1 h2
    refine wpc_loop (fun i : Nat => ⟨[a.av, b.av, .ptr ((ns.sub 0).sub 0) 0, .ptr ((ns.sub 0).sub 1) 0, .bool false, .int .i64 i, .any, .any, .any, .any, .any, .any, .any, .any, .any, .any, .any, .any, .any, .any, .any, .any, .any, .any, .any, .any, .any, .any, .any, .any, .any, .any, .any, .any, .any, .any, .any, .any, .any, .any, .any, .any, .any, .any, .any],
        (σ.up ((ns.sub 0).sub 0) (.var [.int .i64 a.seq, .int .i64 a.kind, .sl 1 (ints a.nums) .unk])).up ((ns.sub 0).sub 1) (.var [.int .i64 b.seq, .int .i64 b.kind, .sl 1 (ints b.nums) .unk]), ns, 3, []⟩)
      (fun i => a.nums.length - i) (fun i => i ≤ a.nums.length ∧ ∀ (j : Nat), j < i → a.nums[j]? = b.nums[j]?) 0 (by simp) ⟨by simp, by simp⟩ AVsLe.le (.refl _) rfl ?_
    rintro i k ⟨g1, g2⟩
    simp
    refine condK_cases (fun h3 => ?_) (fun h3 => ?_)
    · simp at h3
      have hb : a.nums[i]? = some a.nums[i] := List.getElem?_eq_getElem h3
      generalize a.nums[i] = x at hb
      have hc : b.nums[i]? = some (b.nums[i]'(by omega)) := List.getElem?_eq_getElem (by omega)
      generalize (b.nums[i]'(by omega)) = y at hc
      have hw : IntKind.wrap .i64 ((i : Int) + 1) = (i : Int) + 1 := wrap64 (by omega) (by omega)
      simp
      refine wpc_draw (id := 6) [.take 0 [] [] [1, 3, 4, 10], .take 2 [] [] [3, 4, 10], .take 5 [] [] [6, 8, 9, 10], .take 7 [] [] [8, 9, 10], .take 1 [] [] [3, 4, 10], .take 3 [] [] [4, 10], .take 4 [] [] [10], .only 6, .only 8, .only 9, .only 10] (by kernel_rfl) ?_
      simp [hb, hc]
      refine condK_cases (fun hx => ?_) (fun hx => ?_)
      · simp at hx
        simp
        have hn : ¬ a.nums = b.nums := fun e => hx (by rw [e, hc] at hb; injection hb with hb; exact hb.symm)
        exact endA_eq (by simp [sameMsg, hn]) (by simp)
      · simp at hx
        subst hx
        simp [hw]
        refine loopG_normal (i + 1) ⟨by omega, fun j hj => ?_⟩ (by omega) AVsLe.le (.of_eq (by simp [restoreS_up_out, restoreS_left_out, Nm.under_sub])) rfl
        by_cases e : j = i
        · subst e; rw [hb, hc]
        · exact g2 j (by omega)
    · simp at h3
      simp
      have hn : a.nums = b.nums := List.ext_getElem? fun j => by
        by_cases hj : j < i
        · exact g2 j hj
        · rw [List.getElem?_eq_none (by omega), List.getElem?_eq_none (by omega)]
      exact endA_eq (by simp [sameMsg, h1, h2, hn]) (by simp)
set_option maxHeartbeats 4000000 in
theorem Same_pure (a b : Ses) (ha : a.reply.nums.length < 2 ^ 62) : Pure Try.prog 18 [a.av, b.av] (.bool (a.last == b.last && sameMsg a.reply b.reply)) := by
  intro σ ns
  refine acalls_of_wpc Try.mixed Try.func18 rfl Try.en18 ?_
  simp [Try.ntmps18]
  refine guardK_cases (fun h => ?_) (fun h => ?_) <;> simp [h]
  · refine Pure.use_le (SameMsg_pure a.reply b.reply ha) ?_
    simp
    exact endA_pure (by simp)
  · exact endA_pure (by simp)
def great (l : List Wd) : Bool := decide (200 < l.length) || l.any (fun w => decide (20 < w.nums.length))
abbrev wds (l : List Wd) : AV := .sl 3 (l.map Wd.cells) .unk
set_option maxHeartbeats 4000000 in
theorem Great_pure (l : List Wd) : Pure Try.prog 10 [wds l] (.bool (great l)) := by
  intro σ ns
  refine acalls_of_wpc Try.mixed Try.func10 rfl Try.en10 ?_
  simp [Try.ntmps10]
  refine condK_cases (fun h => ?_) (fun h => ?_)
  · simp at h
    simp
    exact endA_eq (by simp [great]; omega) (by simp)
  · simp at h
    simp
    refine wpc_loop (fun i : Nat => ⟨[wds l, .any, .bool false, .int .i64 i, .any, .any, .any, .any, .any, .any, .any, .any, .any, .any, .any, .any, .any, .any, .any, .any], σ, ns, 3, []⟩)
      (fun i => l.length - i) (fun i => i ≤ l.length ∧ ∀ (j : Nat) (w : Wd), j < i → l[j]? = some w → w.nums.length ≤ 20) 0 (by simp) ⟨by simp, by simp⟩ AVsLe.le (.refl _) rfl ?_
    rintro i k ⟨h1, h2⟩
    simp
    refine condK_cases (fun h => ?_) (fun h => ?_)
    · simp at h
      have hb : l[i]? = some l[i] := List.getElem?_eq_getElem h
      generalize l[i] = b at hb
      have hw : IntKind.wrap .i64 ((i : Int) + 1) = (i : Int) + 1 := wrap64 (by omega) (by omega)
      simp [hb]
      refine condK_cases (fun hx => ?_) (fun hx => ?_)
      · simp at hx
        simp
        refine endA_eq ?_ (by simp)
        have : great l = true := by
          simp only [great, Bool.or_eq_true, List.any_eq_true, decide_eq_true_eq]
          exact .inr ⟨b, List.mem_of_getElem? hb, by omega⟩
        rw [this]
      · simp at hx
        simp [hw]
        refine loopG_normal (i + 1) ⟨by omega, fun j w hj hw' => ?_⟩ (by omega) AVsLe.le (.of_eq (by simp)) rfl
        by_cases e : j = i
        · subst e; rw [hb] at hw'; injection hw' with e; subst e; omega
        · exact h2 j w (by omega) hw'
    · simp at h
      simp
      refine endA_eq ?_ (by simp)
      have : great l = false := by
        simp only [great, Bool.or_eq_false_iff, decide_eq_false_iff_not, List.any_eq_false, decide_eq_true_eq]
        refine ⟨by omega, fun w hw => ?_⟩
        obtain ⟨j, hj, rfl⟩ := List.getElem_of_mem hw
        have := h2 j _ (by omega) (List.getElem?_eq_getElem hj)
        omega
      rw [this]
def stepB (t : Ses) (w : Wd) : Ses := if 8 < w.kind then (complete t w.nums).1 else (receive t (msgOf w)).1
def behind (l : List Wd) : Ses := l.foldl stepB ⟨0, ⟨0, 0, []⟩⟩
set_option maxHeartbeats 4000000 in
theorem Behind_pure (l : List Wd) (hl : great l = false) : Pure Try.prog 20 [wds l] (behind l).av := by
  have hl1 : l.length ≤ 200 := by simp [great] at hl; omega
  have hl2 : ∀ w ∈ l, w.nums.length ≤ 20 := by simp [great] at hl; exact hl.2
  intro σ ns
  refine acalls_of_wpc Try.mixed Try.func20 rfl Try.en20 ?_
  simp [Try.ntmps20]
  refine wpc_loop (fun p : Nat × Ses => ⟨[wds l, .any, .ptr ((ns.sub 0).sub 0) 0, .ptr ((ns.sub 1).sub 1) 0, .int .i64 p.1, .any, .any, .any, .any, .any, .any, .any, .any, .any, .any, .any, .any, .any, .any, .any, .any, .any, .any, .any, .any, .any, .any, .any, .any, .any, .any, .any, .any, .any, .any, .any, .any, .any, .any, .any, .any, .any, .any, .any, .any, .any, .any],
      (σ.up ((ns.sub 0).sub 0) (.var [.int .i64 0, .int .i64 0, .int .i64 0, .sl 0 [] .nil])).up ((ns.sub 1).sub 1) (.var [.int .i64 p.2.last, .int .i64 p.2.reply.seq, .int .i64 p.2.reply.kind, .sl 1 (ints p.2.reply.nums) .unk]), ns, 3, []⟩)
    (fun p => l.length - p.1) (fun p => p.1 ≤ l.length ∧ p.2 = behind (l.take p.1)) (0, ⟨0, ⟨0, 0, []⟩⟩) (by simp) ⟨by simp, by simp [behind]⟩ AVsLe.le StWkC.h rfl ?_
  rintro ⟨i, t⟩ k ⟨g1, g2⟩
  simp at g1 g2
  simp
  refine condK_cases (fun h3 => ?_) (fun h3 => ?_)
  · simp at h3
    have hb : l[i]? = some l[i] := List.getElem?_eq_getElem h3
    have hw : IntKind.wrap .i64 ((i : Int) + 1) = (i : Int) + 1 := wrap64 (by omega) (by omega)
    have hn := hl2 l[i] (List.getElem_mem h3)
    have hstep : stepB t l[i] = behind (l.take (i + 1)) := by rw [g2, List.take_add_one, hb]; simp only [behind, List.foldl_append, Option.toList, List.foldl_cons, List.foldl_nil]
    generalize l[i] = w at hb hn hstep
    simp [hb]
    refine condK_cases (fun hx => ?_) (fun hx => ?_)
    · simp at hx
      simp
      refine wpc_draw (id := 6) [.take 1 [] [] [3, 4, 5, 6, 7, 8, 9, 12, 13], .take 2 [] [] [3, 4, 5, 6, 7, 8, 9, 12, 13], .take 3 [] [] [4, 5, 6, 7, 8, 9, 12, 13], .take 4 [] [] [5, 6, 7, 8, 9, 12, 13], .take 0 [10, 11] [] [6, 7, 8, 9, 12, 13], .take 5 [10, 11] [] [6, 7, 8, 9, 12, 13], .take 6 [] [] [7, 8, 9, 12, 13], .take 7 [] [] [8, 9, 12, 13], .take 8 [] [] [12, 13], .take 9 [] [] [13], .take 10 [] [] [12, 13], .only 11, .only 12, .only 13] (by kernel_rfl) ?_
      simp [hb, Nm.under_sub]
      refine callT_le (Done_pure t w.nums (by omega)) ?_
      simp [hw]
      exact loopG_normal (i + 1, (complete t w.nums).1) ⟨by simp; omega, by simp only; rw [← hstep]; simp [stepB, hx]⟩ (by simp; omega) AVsLe.le (.of_eq (by simp [restoreS_up_out, restoreS_left_out, Nm.under_sub])) rfl
    · simp at hx
      simp
      refine wpc_draw (id := 8) [.take 1 [] [] [3, 4, 5, 6, 7, 8, 9, 10, 13, 14, 15], .take 2 [] [] [3, 4, 5, 6, 7, 8, 9, 10, 13, 14, 15], .take 3 [] [] [4, 5, 6, 7, 8, 9, 10, 13, 14, 15], .take 4 [11, 12] [] [5, 6, 7, 8, 9, 10, 13, 14, 15], .take 5 [] [] [6, 7, 8, 9, 10, 13, 14, 15], .take 0 [11, 12] [] [6, 7, 8, 9, 10, 13, 14, 15], .take 6 [] [] [7, 8, 9, 10, 13, 14, 15], .take 7 [] [] [8, 9, 10, 13, 14, 15], .take 8 [] [] [13, 14, 15], .take 9 [] [] [14, 15], .take 10 [] [] [15], .take 11 [] [] [13, 14, 15], .only 12, .only 13, .only 14, .only 15] (by kernel_rfl) ?_
      simp [hb]
      refine callT_le (msg_pure w) ?_
      simp
      refine callT_le (Hear_pure t (msgOf w)) ?_
      simp [hw]
      have hx' : ¬ 8 < w.kind := by omega
      exact loopG_normal (i + 1, (receive t (msgOf w)).1) ⟨by simp; omega, by simp only; rw [← hstep]; simp [stepB, hx']⟩ (by simp; omega) AVsLe.le (.of_eq (by simp [restoreS_up_out, restoreS_left_out, Nm.under_sub])) rfl
  · simp at h3
    simp
    have e : behind l = t := by rw [g2, List.take_of_length_le h3]
    rw [e]
    exact endA_le (by simp)
end Go.Proofs
