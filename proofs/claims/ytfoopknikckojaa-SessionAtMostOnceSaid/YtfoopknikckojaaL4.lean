/- The walk of SessionAtMostOnce: it returns true. -/
import Derived.Test.YtfoopknikckojaaP
set_option linter.unusedVariables false
set_option linter.unusedSimpArgs false
set_option maxRecDepth 100000
namespace Go.Proofs
open Go Go.Abs
attribute [local irreducible] wpc aSeq awAny endA guardK condK CallK callT aPlan onlyL takeL aeffK takeE loopG bodyA thenA inBlockA
/-- Is it busy? -/
def bz (t : Ses) : Bool := decide (0 < t.last) && (t.reply.kind == 0)
theorem complete_bz {t : Ses} {n : List Int} (h : bz t = true) : complete t n = (⟨t.last, ⟨t.last, 9, n⟩⟩, ⟨t.last, 9, n⟩) := by unfold complete; unfold bz at h; rw [if_pos h]
theorem complete_nbz {t : Ses} {n : List Int} (h : bz t = false) : complete t n = (t, ⟨0, 0, []⟩) := by unfold complete; rw [if_neg (by unfold bz at h; rw [h]; simp)]
set_option maxHeartbeats 4000000 in
theorem law4 (l : List Wd) : Pure Try.prog 4 [wds l] (.bool true) := by
  intro σ ns
  refine acalls_of_wpc Try.mixed Try.func4 rfl Try.en4 ?_
  simp [Try.ntmps4]
  refine Pure.use_le head_pure ?_
  simp
  refine Pure.use_le (Great_pure l) ?_
  simp
  refine condK_cases (fun h => ?_) (fun h => ?_)
  · simp
    exact endA_pure (by simp)
  simp
  obtain ⟨hl1, hl2⟩ := great_false h
  refine wpc_loop (fun p : Nat × Ses => ⟨[wds l, .any, .bool false, .bool true, .ptr ((ns.sub 3).sub 1) 0, .int .i64 (p.2.last + 1), .bool (bz p.2), .int .i64 p.1, .any, .any, .any, .any, .any, .any, .any, .any, .any, .any, .any, .any, .any, .any, .any, .any, .any, .any, .any, .any, .any, .any, .any, .any, .any, .any, .any, .any, .any, .any, .any, .any, .any, .any, .any, .any, .any, .any, .any, .any, .any, .any, .any, .any, .any, .any, .any, .any, .any, .any, .any, .any, .any, .any, .any, .any, .any, .any, .any, .any, .any, .any, .any, .any, .any, .any, .any, .any, .any, .any, .any, .any], σ.up ((ns.sub 3).sub 1) (.var [.int .i64 p.2.last, .int .i64 p.2.reply.seq, .int .i64 p.2.reply.kind, .sl 1 (ints p.2.reply.nums) .unk]), ns, 7, []⟩)
    (fun p => l.length - p.1) (fun p => p.1 ≤ l.length ∧ valid p.2 = true) (0, ⟨0, ⟨0, 0, []⟩⟩) (by simp) ⟨by simp, by rfl⟩ (by repeat' first | exact AVsle.nil | refine AVsle.cons AVLe.le ?_ | refine AVsle.cons (AVle.refl _) ?_) StWkC.h rfl ?_
  rintro ⟨i, t⟩ q ⟨g1, hv⟩
  simp at g1 hv
  obtain ⟨hb1, hb2, _⟩ := valid_bounds hv
  simp
  refine condK_cases (fun h3 => ?_) (fun h3 => ?_)
  · simp at h3
    have hb : l[i]? = some l[i] := List.getElem?_eq_getElem h3
    have hw : IntKind.wrap .i64 ((i : Int) + 1) = (i : Int) + 1 := wrap64 (by omega) (by omega)
    have hn := hl2 l[i] (List.getElem_mem h3)
    generalize l[i] = w at hb hn
    simp [hb]
    refine condK_cases (fun hx => ?_) (fun hx => ?_)
    · simp at hx
      simp
      refine wpc_draw (id := 11) [.take 1 [] [] [3, 4, 5, 6, 7, 8, 9, 12, 13], .take 2 [] [] [3, 4, 5, 6, 7, 8, 9, 12, 13], .take 3 [] [] [4, 5, 6, 7, 8, 9, 12, 13], .take 4 [] [] [5, 6, 7, 8, 9, 12, 13], .take 0 [10, 11] [] [6, 7, 8, 9, 12, 13], .take 5 [10, 11] [] [6, 7, 8, 9, 12, 13], .take 6 [] [] [7, 8, 9, 12, 13], .take 7 [] [] [8, 9, 12, 13], .take 8 [] [] [12, 13], .take 9 [] [] [13], .take 10 [] [] [12, 13], .only 11, .only 12, .only 13] (by kernel_rfl) ?_
      simp [hb, Nm.under_sub]
      refine callT_le (Complete_pure t w.nums (by omega)) ?_
      cases hz : bz t with
      | true =>
        simp [complete_bz hz, hz, hw]
        have hz2 : bz ⟨t.last, ⟨t.last, 9, w.nums⟩⟩ = false := by simp [bz]
        refine loopG_normal (i + 1, ⟨t.last, ⟨t.last, 9, w.nums⟩⟩) ⟨h3, by have := valid_complete (l := w.nums) hv hn; rw [complete_bz hz] at this; exact this⟩ (by simp only; omega) ?_ (.of_eq (by simp [restoreS_up_out, restoreS_left_out, Nm.under_sub])) rfl
        simp only [hz2]
        exact (by repeat' first | exact AVsle.nil | refine AVsle.cons AVLe.le ?_ | refine AVsle.cons (AVle.refl _) ?_)
      | false =>
        simp [complete_nbz hz, hz, hw]
        refine loopG_normal (i + 1, t) ⟨h3, hv⟩ (by simp only; omega) ?_ (.of_eq (by simp [restoreS_up_out, restoreS_left_out, Nm.under_sub])) rfl
        simp only [hz]
        exact (by repeat' first | exact AVsle.nil | refine AVsle.cons AVLe.le ?_ | refine AVsle.cons (AVle.refl _) ?_)
    · simp at hx
      simp
      refine wpc_draw (id := 16) [.take 1 [] [] [3, 4, 5, 6, 7, 8, 9, 10, 13, 14, 15], .take 2 [] [] [3, 4, 5, 6, 7, 8, 9, 10, 13, 14, 15], .take 3 [] [] [4, 5, 6, 7, 8, 9, 10, 13, 14, 15], .take 4 [11, 12] [] [5, 6, 7, 8, 9, 10, 13, 14, 15], .take 5 [] [] [6, 7, 8, 9, 10, 13, 14, 15], .take 0 [11, 12] [] [6, 7, 8, 9, 10, 13, 14, 15], .take 6 [] [] [7, 8, 9, 10, 13, 14, 15], .take 7 [] [] [8, 9, 10, 13, 14, 15], .take 8 [] [] [13, 14, 15], .take 9 [] [] [14, 15], .take 10 [] [] [15], .take 11 [] [] [13, 14, 15], .only 12, .only 13, .only 14, .only 15] (by kernel_rfl) ?_
      simp [hb, Nm.under_sub]
      refine callT_le (msg_pure w) ?_
      simp
      refine callT_le (Receive_pure t (msgOf w)) ?_
      rcases receive_cases t (msgOf w) with ⟨e1, e2⟩ | ⟨e1, _⟩
      · have hw1 : IntKind.wrap .i64 t.last = t.last := wrap64 (by omega) (by omega)
        simp [e1, e2, hw, hw1]
        exact loopG_normal (i + 1, t) ⟨h3, hv⟩ (by simp only; omega) (by repeat' first | exact AVsle.nil | refine AVsle.cons AVLe.le ?_ | refine AVsle.cons (AVle.refl _) ?_) (.of_eq (by simp [restoreS_up_out, restoreS_left_out, Nm.under_sub])) rfl
      · obtain ⟨_, e3, e4, e5⟩ := received (m := msgOf w) hv (by rw [e1])
        have hz : bz t = false := by simp [bz]; omega
        have e3' : w.seq = t.last + 1 := e3
        have hw1 : IntKind.wrap .i64 (t.last + 1 + 1) = t.last + 1 + 1 := wrap64 (by omega) (by omega)
        have hw2 : IntKind.wrap .i64 (t.last + 1) = t.last + 1 := wrap64 (by omega) (by omega)
        have hz2 : bz ⟨t.last + 1, ⟨0, 0, []⟩⟩ = true := by simp [bz]; omega
        have hv2 : valid ⟨t.last + 1, ⟨0, 0, []⟩⟩ = true := valid_of (by simp only; omega) (by simp only; omega) (.inl ⟨rfl, rfl, rfl⟩)
        simp [e1, hz, e3', hw, hb, hw1, hw2]
        refine loopG_normal (i + 1, ⟨t.last + 1, ⟨0, 0, []⟩⟩) ⟨h3, hv2⟩ (by simp only; omega) ?_ (.of_eq (by simp [restoreS_up_out, restoreS_left_out, Nm.under_sub])) rfl
        simp only [hz2]
        exact (by repeat' first | exact AVsle.nil | refine AVsle.cons AVLe.le ?_ | refine AVsle.cons (AVle.refl _) ?_)
  · simp
    exact endA_pure (by simp)
end Go.Proofs
