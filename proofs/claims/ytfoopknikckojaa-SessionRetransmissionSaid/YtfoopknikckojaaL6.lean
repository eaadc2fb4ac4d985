/- The walk of SessionRetransmission: it returns true. -/
import Derived.Test.YtfoopknikckojaaP
set_option linter.unusedVariables false
set_option linter.unusedSimpArgs false
set_option maxRecDepth 100000
namespace Go.Proofs
open Go Go.Abs
attribute [local irreducible] wpc aSeq awAny endA guardK condK CallK callT aPlan onlyL takeL aeffK takeE loopG bodyA thenA inBlockA
set_option maxHeartbeats 4000000 in
theorem law6 (l : List Wd) (n : List Int) (b : List Wd) (k o : Int) (hk : 0 ≤ k ∧ k ≤ 255) : Pure Try.prog 6 [wds l, .sl 1 (ints n) .unk, wds b, .int .u8 k, .int .i64 o] (.bool true) := by
  intro σ ns
  refine acalls_of_wpc Try.mixed Try.func6 rfl Try.en6 ?_
  simp [Try.ntmps6]
  refine Pure.use_le head_pure ?_
  simp
  refine Pure.use_le (Great_pure l) ?_
  simp
  refine guardK_cases (fun h => ?_) (fun h => ?_)
  · simp [h]
    exact endA_pure (by simp)
  simp [h]
  refine Pure.use_le (Great_pure b) ?_
  simp
  refine guardK_cases (fun h1 => ?_) (fun h1 => ?_)
  · simp [h1]
    exact endA_pure (by simp)
  simp [h1]
  refine condK_cases (fun h2 => ?_) (fun h2 => ?_)
  · simp
    exact endA_pure (by simp)
  simp at h2
  simp
  refine Pure.use_le (Behind_pure l h) ?_
  simp
  have hv := valid_behind h
  generalize behind l = t at hv
  refine Pure.use_le (Complete_pure t n (by omega)) ?_
  simp
  refine condK_cases (fun h3 => ?_) (fun h3 => ?_)
  · simp
    exact endA_pure (by simp)
  simp at h3
  obtain ⟨hb1, hb2, _⟩ := valid_bounds hv
  have hlast : 0 < t.last := by
    unfold complete at h3
    split at h3
    · rename_i hx; simp at hx; exact hx.1
    · exact absurd rfl h3
  have hc : complete t n = (⟨t.last, ⟨t.last, 9, n⟩⟩, ⟨t.last, 9, n⟩) := by
    unfold complete at h3 ⊢
    split at h3
    · rename_i hx; rw [if_pos hx]
    · exact absurd rfl h3
  simp [hc]
  generalize t.last = L at hlast hb1 hb2
  have hU : valid ⟨L, ⟨L, 9, n⟩⟩ = true := valid_of hb1 hb2 (.inr ⟨rfl, hlast, rfl, by simp only; omega⟩)
  obtain ⟨hg1, hg2⟩ := great_false h1
  have hw1 : IntKind.wrap .i64 (L + 1) = L + 1 := wrap64 (by omega) (by omega)
  refine wpc_loop (fun i : Nat => ⟨[wds l, .sl 1 (ints n) .unk, wds b, .int .u8 k, .int .i64 o, .any, .any, .any, .any, .any, .bool false, .bool true, .ptr ((ns.sub 3).sub 2) 0, .ptr ((ns.sub 4).sub 6) 0, .ptr ((ns.sub 4).sub 7) 0, .int .i64 i, .any, .any, .any, .any, .any, .any, .any, .any, .any, .any, .any, .any, .any, .any, .any, .any, .any, .any, .any, .any, .any, .any, .any, .any, .any, .any, .any, .any, .any, .any, .any, .any, .any, .any, .any, .any, .any, .any, .any, .any, .any, .any, .any, .any, .any, .any, .any, .any, .any, .any, .any, .any, .any, .any, .any, .any, .any, .any, .any, .any, .any, .any, .any, .any, .any, .any, .any, .any, .any, .any, .any, .any, .any, .any, .any, .any, .any, .any, .any, .any, .any, .any, .any, .any, .any, .any, .any, .any, .any, .any, .any, .any, .any, .any, .any, .any, .any, .any, .any, .any, .any, .any, .any, .any, .any, .any, .any, .any, .any, .any, .any, .any, .any, .any, .any, .any, .any], (((σ.up ((ns.sub 3).sub 2) (.var [.int .i64 L, .int .i64 t.reply.seq, .int .i64 t.reply.kind, .sl 1 (ints t.reply.nums) .unk])).up ((ns.sub 4).sub 6) (.var [.int .i64 0, .int .i64 0, .int .i64 0, .sl 0 [] .nil])).up ((ns.sub 4).sub 7) (.var [.int .i64 L, .int .i64 9, .sl 1 (ints n) .unk])).up ((ns.sub 4).sub 6) (.var [.int .i64 L, .int .i64 L, .int .i64 9, .sl 1 (ints n) .unk]), ns, 7, []⟩)
    (fun i => b.length - i) (fun i => i ≤ b.length) 0 (by simp) (by simp) (by repeat' first | exact AVsle.nil | refine AVsle.cons AVLe.le ?_) ?_ rfl ?_
  · have e : ∀ (X : Store) (x y z u : AObj), ((((X.up ((ns.sub 4).sub 6) x).up ((ns.sub 4).sub 7) y).up ((ns.sub 4).sub 6) z).up ((ns.sub 4).sub 7) u) = (((X.up ((ns.sub 4).sub 6) x).up ((ns.sub 4).sub 7) u).up ((ns.sub 4).sub 6) z) := fun X x y z u => by
      funext m
      by_cases e1 : m = (ns.sub 4).sub 6 <;> by_cases e2 : m = (ns.sub 4).sub 7 <;> simp [Store.up, e1, e2]
    rw [e]; exact .refl _
  · rintro i q g1
    simp
    refine condK_cases (fun h4 => ?_) (fun h4 => ?_)
    · simp at h4
      have hb : b[i]? = some b[i] := List.getElem?_eq_getElem h4
      have hw : IntKind.wrap .i64 ((i : Int) + 1) = (i : Int) + 1 := wrap64 (by omega) (by omega)
      generalize b[i] = w at hb
      simp
      refine wpc_draw (id := 11) [.take 0 [] [] [2, 3, 4, 8], .take 1 [] [] [2, 3, 4, 8], .take 2 [] [] [3, 4, 8], .take 3 [] [] [4, 8], .take 5 [] [] [6, 7, 8], .take 4 [] [] [8], .only 6, .only 7, .only 8] (by kernel_rfl) ?_
      simp [hb, hw1]
      refine condK_cases (fun h5 => ?_) (fun h5 => ?_)
      · simp [hw]
        exact loopG_normal (i + 1) h4 (by omega) (by repeat' first | exact AVsle.nil | refine AVsle.cons AVLe.le ?_) (.of_eq (by simp [restoreS_up_out, restoreS_left_out, Nm.under_sub])) rfl
      · simp at h5
        simp
        refine wpc_draw (id := 12) [.take 1 [] [] [3, 4, 5, 6, 7, 8, 9, 10, 13, 14, 15], .take 2 [] [] [3, 4, 5, 6, 7, 8, 9, 10, 13, 14, 15], .take 3 [] [] [4, 5, 6, 7, 8, 9, 10, 13, 14, 15], .take 4 [11, 12] [] [5, 6, 7, 8, 9, 10, 13, 14, 15], .take 5 [] [] [6, 7, 8, 9, 10, 13, 14, 15], .take 0 [11, 12] [] [6, 7, 8, 9, 10, 13, 14, 15], .take 6 [] [] [7, 8, 9, 10, 13, 14, 15], .take 7 [] [] [8, 9, 10, 13, 14, 15], .take 8 [] [] [13, 14, 15], .take 9 [] [] [14, 15], .take 10 [] [] [15], .take 11 [] [] [13, 14, 15], .only 12, .only 13, .only 14, .only 15] (by kernel_rfl) ?_
        simp [hb, Nm.under_sub]
        refine callT_le (msg_pure w) ?_
        simp
        refine callT_le (Receive_pure ⟨L, ⟨L, 9, n⟩⟩ (msgOf w)) ?_
        have e : (receive ⟨L, ⟨L, 9, n⟩⟩ (msgOf w)).1 = ⟨L, ⟨L, 9, n⟩⟩ := by
          rcases receive_cases ⟨L, ⟨L, 9, n⟩⟩ (msgOf w) with ⟨_, e⟩ | ⟨e, _⟩
          · exact e
          · exact absurd (received (m := msgOf w) hU (by rw [e])).2.1 h5
        simp [hw, e]
        exact loopG_normal (i + 1) h4 (by omega) (by repeat' first | exact AVsle.nil | refine AVsle.cons AVLe.le ?_) (.of_eq (by simp [restoreS_up_out, restoreS_left_out, Nm.under_sub])) rfl
    · have hwk : IntKind.wrap .i64 k = k := wrap64 (by omega) (by omega)
      have hm : 0 ≤ k.tmod 5 ∧ k.tmod 5 < 5 := by
        rw [Int.tmod_eq_emod_of_nonneg hk.1]; omega
      generalize hmm : k.tmod 5 = m at hm
      have hwm : IntKind.wrap .i64 (m + 1) = m + 1 := wrap64 (by omega) (by omega)
      simp [hwk, hmm, hwm]
      refine Pure.use_le (Receive_pure ⟨L, ⟨L, 9, n⟩⟩ ⟨L, m + 1, []⟩) ?_
      have e1 : receive ⟨L, ⟨L, 9, n⟩⟩ ⟨L, m + 1, []⟩ = (⟨L, ⟨L, 9, n⟩⟩, false, ⟨L, 9, n⟩) := receive_2 _ _ (by simp [rc]; omega) (by simp [rc]; omega)
      simp [e1]
      refine Pure.use_le (SameMsg_pure ⟨L, 9, n⟩ ⟨L, 9, n⟩ (by simp only; omega)) ?_
      simp [sameMsg]
      refine Pure.use_le (Same_pure ⟨L, ⟨L, 9, n⟩⟩ ⟨L, ⟨L, 9, n⟩⟩ (by simp only; omega)) ?_
      simp [sameMsg]
      refine Pure.use_le (Receive_pure ⟨L, ⟨L, 9, n⟩⟩ ⟨o, 5, []⟩) ?_
      by_cases ho : L ≤ o
      · simp [ho]
        exact endA_pure (by simp)
      · have e2 : receive ⟨L, ⟨L, 9, n⟩⟩ ⟨o, 5, []⟩ = (⟨L, ⟨L, 9, n⟩⟩, false, ⟨o, 330, []⟩) := receive_3 _ _ (by simp [rc]) (by simp [rc]; omega) (by simp [rc]; split <;> omega)
        simp [e2, ho]
        exact endA_pure (by simp)
end Go.Proofs
