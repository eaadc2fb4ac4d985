/- The walk of SessionMatchesReference: it returns true. -/
import Derived.Test.YtfoopknikckojaaP
set_option linter.unusedVariables false
set_option linter.unusedSimpArgs false
set_option maxRecDepth 100000
namespace Go.Proofs
open Go Go.Abs
attribute [local irreducible] wpc aSeq awAny endA guardK condK CallK callT aPlan onlyL takeL aeffK takeE loopG bodyA thenA inBlockA
theorem sameMsg_same (a : Msg) : sameMsg a a = true := by simp [sameMsg]
theorem receive_nums {t : Ses} {m : Msg} (hv : valid t = true) : (receive t m).1.reply.nums.length ≤ 20 ∧ (receive t m).2.2.nums.length ≤ 20 := by
  have := valid_nums hv
  unfold receive
  repeat' split
  all_goals (simp; try omega)
theorem complete_nums {t : Ses} {n : List Int} (hv : valid t = true) (hn : n.length ≤ 20) : (complete t n).1.reply.nums.length ≤ 20 ∧ (complete t n).2.nums.length ≤ 20 := by
  have := valid_nums hv
  unfold complete
  split
  all_goals (simp; try omega)
set_option maxHeartbeats 8000000 in
theorem law3 (r : Ses) (l : List Wd) : Pure Try.prog 3 [r.av, wds l] (.bool true) := by
  intro σ ns
  refine acalls_of_wpc Try.mixed Try.func3 rfl Try.en3 ?_
  simp [Try.ntmps3]
  refine Pure.use_le head_pure ?_
  simp
  refine wpc_draw (id := 2) [.only 0, .only 1, .only 2, .only 3, .only 4, .only 5, .only 6, .only 7, .only 8, .only 9, .take 10 [] [] [11, 13, 14, 15], .take 11 [] [] [13, 14, 15], .only 12, .only 13, .only 14, .only 15] (by kernel_rfl) ?_
  simp
  refine Pure.use_le (Great_pure l) ?_
  simp
  refine guardK_cases (fun h => ?_) (fun h => ?_)
  · simp [h]
    refine Pure.use_le (Great_pure l) ?_
    simp [h]
    exact endA_pure (by simp)
  simp [h]
  obtain ⟨hl1, hl2⟩ := great_false h
  refine guardK_cases (fun h1 => ?_) (fun h1 => ?_)
  · simp [h1]
    refine Pure.use_le (Great_pure l) ?_
    simp [h, h1]
    exact endA_pure (by simp)
  simp [h1]
  refine callT_le (Valid_pure r) ?_
  simp
  first | refine callT_le (Right_pure r) ?_ | refine Pure.use_le (Right_pure r) ?_
  simp
  refine Pure.use_le (Right_pure r) ?_
  cases hvr : valid r with
  | true =>
    simp
    refine wpc_loop (fun p : Nat × Ses => ⟨[r.av, wds l, .ptr ((ns.sub 0).sub 0) 0, .any, .bool false, .bool true, .ptr ((ns.sub 3).sub 1) 0, .int .i64 p.1, .any, .any, .any, .any, .any, .any, .any, .any, .any, .any, .any, .any, .any, .any, .any, .any, .any, .any, .any, .any, .any, .any, .any, .any, .any, .any, .any, .any, .any, .any, .any, .any, .any, .any, .any, .any, .any, .any, .any, .any, .any, .any, .any, .any, .any, .any, .any, .any, .any, .any, .any, .any, .any, .any, .any, .any, .any, .any, .any, .any, .any, .any, .any, .any, .any, .any, .any, .any, .any, .any, .any, .any, .any, .any, .any, .any, .any, .any, .any, .any, .any, .any, .any, .any, .any, .any, .any, .any, .any, .any, .any, .any, .any, .any, .any, .any, .any, .any, .any, .any, .any, .any, .any, .any, .any, .any, .any, .any, .any, .any, .any, .any, .any, .any, .any, .any, .any, .any, .any, .any, .any, .any, .any, .any, .any, .any, .any], (σ.up ((ns.sub 0).sub 0) (.var [.int .i64 r.last, .int .i64 r.reply.seq, .int .i64 r.reply.kind, .sl 1 (ints r.reply.nums) .unk])).up ((ns.sub 3).sub 1) (.var [.int .i64 p.2.last, .int .i64 p.2.reply.seq, .int .i64 p.2.reply.kind, .sl 1 (ints p.2.reply.nums) .unk]), ns, 7, []⟩)
      (fun p => l.length - p.1) (fun p => p.1 ≤ l.length ∧ valid p.2 = true) (0, r) (by simp) ⟨by simp, hvr⟩ (by repeat' first | exact AVsle.nil | refine AVsle.cons AVLe.le ?_ | refine AVsle.cons (AVle.refl _) ?_) StWkC.h rfl ?_
    rintro ⟨i, t⟩ q ⟨g1, hv⟩
    simp at g1 hv
    simp
    refine condK_cases (fun h3 => ?_) (fun h3 => ?_)
    · simp at h3
      have hb : l[i]? = some l[i] := List.getElem?_eq_getElem h3
      have hw : IntKind.wrap .i64 ((i : Int) + 1) = (i : Int) + 1 := wrap64 (by omega) (by omega)
      have hn := hl2 l[i] (List.getElem_mem h3)
      generalize l[i] = w at hb hn
      obtain ⟨b1, b2⟩ := receive_nums (m := msgOf w) hv
      obtain ⟨b3, b4⟩ := complete_nums (n := w.nums) hv hn
      have v1 := valid_receive (m := msgOf w) hv
      have v2 := valid_complete (l := w.nums) hv hn
      simp
      refine wpc_draw (id := 10) [.take 1 [] [] [3, 4, 5, 6, 7, 8, 9, 10, 13, 14, 15], .take 2 [] [] [3, 4, 5, 6, 7, 8, 9, 10, 13, 14, 15], .take 3 [] [] [4, 5, 6, 7, 8, 9, 10, 13, 14, 15], .take 4 [11, 12] [] [5, 6, 7, 8, 9, 10, 13, 14, 15], .take 5 [] [] [6, 7, 8, 9, 10, 13, 14, 15], .take 0 [11, 12] [] [6, 7, 8, 9, 10, 13, 14, 15], .take 6 [] [] [7, 8, 9, 10, 13, 14, 15], .take 7 [] [] [8, 9, 10, 13, 14, 15], .take 8 [] [] [13, 14, 15], .take 9 [] [] [14, 15], .take 10 [] [] [15], .take 11 [] [] [13, 14, 15], .only 12, .only 13, .only 14, .only 15] (by kernel_rfl) ?_
      simp [hb, Nm.under_sub]
      refine callT_le (msg_pure w) ?_
      simp
      refine callT_le (Receive_pure t (msgOf w)) ?_
      simp
      refine wpc_draw (id := 11) [.take 1 [] [] [3, 4, 5, 6, 7, 8, 9, 10, 13, 14, 15], .take 2 [] [] [3, 4, 5, 6, 7, 8, 9, 10, 13, 14, 15], .take 3 [] [] [4, 5, 6, 7, 8, 9, 10, 13, 14, 15], .take 4 [11, 12] [] [5, 6, 7, 8, 9, 10, 13, 14, 15], .take 5 [] [] [6, 7, 8, 9, 10, 13, 14, 15], .take 0 [11, 12] [] [6, 7, 8, 9, 10, 13, 14, 15], .take 6 [] [] [7, 8, 9, 10, 13, 14, 15], .take 7 [] [] [8, 9, 10, 13, 14, 15], .take 8 [] [] [13, 14, 15], .take 9 [] [] [14, 15], .take 10 [] [] [15], .take 11 [] [] [13, 14, 15], .only 12, .only 13, .only 14, .only 15] (by kernel_rfl) ?_
      simp [hb, Nm.under_sub]
      refine callT_le (msg_pure w) ?_
      simp
      refine callT_le (Hear_pure t (msgOf w)) ?_
      simp
      refine wpc_draw (id := 12) [.take 1 [] [] [3, 4, 5, 6, 7, 8, 9, 12, 13], .take 2 [] [] [3, 4, 5, 6, 7, 8, 9, 12, 13], .take 3 [] [] [4, 5, 6, 7, 8, 9, 12, 13], .take 4 [] [] [5, 6, 7, 8, 9, 12, 13], .take 0 [10, 11] [] [6, 7, 8, 9, 12, 13], .take 5 [10, 11] [] [6, 7, 8, 9, 12, 13], .take 6 [] [] [7, 8, 9, 12, 13], .take 7 [] [] [8, 9, 12, 13], .take 8 [] [] [12, 13], .take 9 [] [] [13], .take 10 [] [] [12, 13], .only 11, .only 12, .only 13] (by kernel_rfl) ?_
      simp [hb, Nm.under_sub]
      refine callT_le (Complete_pure t w.nums (by omega)) ?_
      simp
      refine wpc_draw (id := 13) [.take 1 [] [] [3, 4, 5, 6, 7, 8, 9, 12, 13], .take 2 [] [] [3, 4, 5, 6, 7, 8, 9, 12, 13], .take 3 [] [] [4, 5, 6, 7, 8, 9, 12, 13], .take 4 [] [] [5, 6, 7, 8, 9, 12, 13], .take 0 [10, 11] [] [6, 7, 8, 9, 12, 13], .take 5 [10, 11] [] [6, 7, 8, 9, 12, 13], .take 6 [] [] [7, 8, 9, 12, 13], .take 7 [] [] [8, 9, 12, 13], .take 8 [] [] [12, 13], .take 9 [] [] [13], .take 10 [] [] [12, 13], .only 11, .only 12, .only 13] (by kernel_rfl) ?_
      simp [hb, Nm.under_sub]
      refine callT_le (Done_pure t w.nums (by omega)) ?_
      simp
      generalize receive t (msgOf w) = R at b1 b2 v1
      generalize complete t w.nums = C at b3 b4 v2
      refine Pure.use_le (Same_pure R.1 R.1 (by omega)) ?_
      simp [sameMsg_same]
      refine Pure.use_le (SameMsg_pure R.2.2 R.2.2 (by omega)) ?_
      simp [sameMsg_same]
      refine Pure.use_le (Same_pure C.1 C.1 (by omega)) ?_
      simp [sameMsg_same]
      refine Pure.use_le (SameMsg_pure C.2 C.2 (by omega)) ?_
      simp [sameMsg_same, hb]
      refine condK_cases (fun hx => ?_) (fun hx => ?_)
      · simp [hw]
        exact loopG_normal (i + 1, C.1) ⟨h3, v2⟩ (by simp only; omega) (by repeat' first | exact AVsle.nil | refine AVsle.cons AVLe.le ?_ | refine AVsle.cons (AVle.refl _) ?_) (.of_eq (by simp [restoreS_up_out, restoreS_left_out, Nm.under_sub])) rfl
      · simp [hw]
        exact loopG_normal (i + 1, R.1) ⟨h3, v1⟩ (by simp only; omega) (by repeat' first | exact AVsle.nil | refine AVsle.cons AVLe.le ?_ | refine AVsle.cons (AVle.refl _) ?_) (.of_eq (by simp [restoreS_up_out, restoreS_left_out, Nm.under_sub])) rfl
    · simp
      exact endA_pure (by simp)
  | false =>
    simp
    refine wpc_loop (fun p : Nat × Ses => ⟨[r.av, wds l, .ptr ((ns.sub 0).sub 0) 0, .any, .bool false, .bool true, .ptr ((ns.sub 3).sub 1) 0, .int .i64 p.1, .any, .any, .any, .any, .any, .any, .any, .any, .any, .any, .any, .any, .any, .any, .any, .any, .any, .any, .any, .any, .any, .any, .any, .any, .any, .any, .any, .any, .any, .any, .any, .any, .any, .any, .any, .any, .any, .any, .any, .any, .any, .any, .any, .any, .any, .any, .any, .any, .any, .any, .any, .any, .any, .any, .any, .any, .any, .any, .any, .any, .any, .any, .any, .any, .any, .any, .any, .any, .any, .any, .any, .any, .any, .any, .any, .any, .any, .any, .any, .any, .any, .any, .any, .any, .any, .any, .any, .any, .any, .any, .any, .any, .any, .any, .any, .any, .any, .any, .any, .any, .any, .any, .any, .any, .any, .any, .any, .any, .any, .any, .any, .any, .any, .any, .any, .any, .any, .any, .any, .any, .any, .any, .any, .any, .any, .any, .any], (σ.up ((ns.sub 0).sub 0) (.var [.int .i64 r.last, .int .i64 r.reply.seq, .int .i64 r.reply.kind, .sl 1 (ints r.reply.nums) .unk])).up ((ns.sub 3).sub 1) (.var [.int .i64 p.2.last, .int .i64 p.2.reply.seq, .int .i64 p.2.reply.kind, .sl 1 (ints p.2.reply.nums) .unk]), ns, 6, []⟩)
      (fun p => l.length - p.1) (fun p => p.1 ≤ l.length ∧ valid p.2 = true) (0, ⟨0, ⟨0, 0, []⟩⟩) (by simp) ⟨by simp, by rfl⟩ (by repeat' first | exact AVsle.nil | refine AVsle.cons AVLe.le ?_ | refine AVsle.cons (AVle.refl _) ?_) StWkC.h rfl ?_
    rintro ⟨i, t⟩ q ⟨g1, hv⟩
    simp at g1 hv
    simp
    refine condK_cases (fun h3 => ?_) (fun h3 => ?_)
    · simp at h3
      have hb : l[i]? = some l[i] := List.getElem?_eq_getElem h3
      have hw : IntKind.wrap .i64 ((i : Int) + 1) = (i : Int) + 1 := wrap64 (by omega) (by omega)
      have hn := hl2 l[i] (List.getElem_mem h3)
      generalize l[i] = w at hb hn
      obtain ⟨b1, b2⟩ := receive_nums (m := msgOf w) hv
      obtain ⟨b3, b4⟩ := complete_nums (n := w.nums) hv hn
      have v1 := valid_receive (m := msgOf w) hv
      have v2 := valid_complete (l := w.nums) hv hn
      simp
      refine wpc_draw (id := 10) [.take 1 [] [] [3, 4, 5, 6, 7, 8, 9, 10, 13, 14, 15], .take 2 [] [] [3, 4, 5, 6, 7, 8, 9, 10, 13, 14, 15], .take 3 [] [] [4, 5, 6, 7, 8, 9, 10, 13, 14, 15], .take 4 [11, 12] [] [5, 6, 7, 8, 9, 10, 13, 14, 15], .take 5 [] [] [6, 7, 8, 9, 10, 13, 14, 15], .take 0 [11, 12] [] [6, 7, 8, 9, 10, 13, 14, 15], .take 6 [] [] [7, 8, 9, 10, 13, 14, 15], .take 7 [] [] [8, 9, 10, 13, 14, 15], .take 8 [] [] [13, 14, 15], .take 9 [] [] [14, 15], .take 10 [] [] [15], .take 11 [] [] [13, 14, 15], .only 12, .only 13, .only 14, .only 15] (by kernel_rfl) ?_
      simp [hb, Nm.under_sub]
      refine callT_le (msg_pure w) ?_
      simp
      refine callT_le (Receive_pure t (msgOf w)) ?_
      simp
      refine wpc_draw (id := 11) [.take 1 [] [] [3, 4, 5, 6, 7, 8, 9, 10, 13, 14, 15], .take 2 [] [] [3, 4, 5, 6, 7, 8, 9, 10, 13, 14, 15], .take 3 [] [] [4, 5, 6, 7, 8, 9, 10, 13, 14, 15], .take 4 [11, 12] [] [5, 6, 7, 8, 9, 10, 13, 14, 15], .take 5 [] [] [6, 7, 8, 9, 10, 13, 14, 15], .take 0 [11, 12] [] [6, 7, 8, 9, 10, 13, 14, 15], .take 6 [] [] [7, 8, 9, 10, 13, 14, 15], .take 7 [] [] [8, 9, 10, 13, 14, 15], .take 8 [] [] [13, 14, 15], .take 9 [] [] [14, 15], .take 10 [] [] [15], .take 11 [] [] [13, 14, 15], .only 12, .only 13, .only 14, .only 15] (by kernel_rfl) ?_
      simp [hb, Nm.under_sub]
      refine callT_le (msg_pure w) ?_
      simp
      refine callT_le (Hear_pure t (msgOf w)) ?_
      simp
      refine wpc_draw (id := 12) [.take 1 [] [] [3, 4, 5, 6, 7, 8, 9, 12, 13], .take 2 [] [] [3, 4, 5, 6, 7, 8, 9, 12, 13], .take 3 [] [] [4, 5, 6, 7, 8, 9, 12, 13], .take 4 [] [] [5, 6, 7, 8, 9, 12, 13], .take 0 [10, 11] [] [6, 7, 8, 9, 12, 13], .take 5 [10, 11] [] [6, 7, 8, 9, 12, 13], .take 6 [] [] [7, 8, 9, 12, 13], .take 7 [] [] [8, 9, 12, 13], .take 8 [] [] [12, 13], .take 9 [] [] [13], .take 10 [] [] [12, 13], .only 11, .only 12, .only 13] (by kernel_rfl) ?_
      simp [hb, Nm.under_sub]
      refine callT_le (Complete_pure t w.nums (by omega)) ?_
      simp
      refine wpc_draw (id := 13) [.take 1 [] [] [3, 4, 5, 6, 7, 8, 9, 12, 13], .take 2 [] [] [3, 4, 5, 6, 7, 8, 9, 12, 13], .take 3 [] [] [4, 5, 6, 7, 8, 9, 12, 13], .take 4 [] [] [5, 6, 7, 8, 9, 12, 13], .take 0 [10, 11] [] [6, 7, 8, 9, 12, 13], .take 5 [10, 11] [] [6, 7, 8, 9, 12, 13], .take 6 [] [] [7, 8, 9, 12, 13], .take 7 [] [] [8, 9, 12, 13], .take 8 [] [] [12, 13], .take 9 [] [] [13], .take 10 [] [] [12, 13], .only 11, .only 12, .only 13] (by kernel_rfl) ?_
      simp [hb, Nm.under_sub]
      refine callT_le (Done_pure t w.nums (by omega)) ?_
      simp
      generalize receive t (msgOf w) = R at b1 b2 v1
      generalize complete t w.nums = C at b3 b4 v2
      refine Pure.use_le (Same_pure R.1 R.1 (by omega)) ?_
      simp [sameMsg_same]
      refine Pure.use_le (SameMsg_pure R.2.2 R.2.2 (by omega)) ?_
      simp [sameMsg_same]
      refine Pure.use_le (Same_pure C.1 C.1 (by omega)) ?_
      simp [sameMsg_same]
      refine Pure.use_le (SameMsg_pure C.2 C.2 (by omega)) ?_
      simp [sameMsg_same, hb]
      refine condK_cases (fun hx => ?_) (fun hx => ?_)
      · simp [hw]
        exact loopG_normal (i + 1, C.1) ⟨h3, v2⟩ (by simp only; omega) (by repeat' first | exact AVsle.nil | refine AVsle.cons AVLe.le ?_ | refine AVsle.cons (AVle.refl _) ?_) (.of_eq (by simp [restoreS_up_out, restoreS_left_out, Nm.under_sub])) rfl
      · simp [hw]
        exact loopG_normal (i + 1, R.1) ⟨h3, v1⟩ (by simp only; omega) (by repeat' first | exact AVsle.nil | refine AVsle.cons AVLe.le ?_ | refine AVsle.cons (AVle.refl _) ?_) (.of_eq (by simp [restoreS_up_out, restoreS_left_out, Nm.under_sub])) rfl
    · simp
      exact endA_pure (by simp)
end Go.Proofs
