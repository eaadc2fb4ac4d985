/- The walk of SessionProgress: it returns true. -/
import Derived.Test.YtfoopknikckojaaP
set_option linter.unusedVariables false
set_option linter.unusedSimpArgs false
set_option maxRecDepth 100000
namespace Go.Proofs
open Go Go.Abs
attribute [local irreducible] wpc aSeq awAny endA guardK condK CallK callT aPlan onlyL takeL aeffK takeE loopG bodyA thenA inBlockA
abbrev bytes (l : List Int) : List (List AV) := l.map fun n => [.int .u8 n]
/-- The session when i requests have been completed. -/
def prev (i : Nat) : Ses := if i = 0 then ⟨0, ⟨0, 0, []⟩⟩ else ⟨i, ⟨i, 9, [(i : Int) - 1]⟩⟩
theorem prev_last (i : Nat) : (prev i).last = i := by unfold prev; split <;> simp_all
/-- The session in the midst of request i. -/
def mid (i : Nat) (d : Bool) : Ses := if d then ⟨i + 1, ⟨i + 1, 9, [(i : Int)]⟩⟩ else prev i
set_option maxHeartbeats 8000000 in
theorem law7 (ks : List Int) (lo : List Bool) (hks : ∀ k ∈ ks, 0 ≤ k ∧ k ≤ 255) : Pure Try.prog 7 [.sl 1 (bytes ks) .unk, .sl 1 (bools lo) .unk] (.bool true) := by
  intro σ ns
  refine acalls_of_wpc Try.mixed Try.func7 rfl Try.en7 ?_
  simp [Try.ntmps7]
  refine Pure.use_le head_pure ?_
  simp
  refine guardK_cases (fun h => ?_) (fun h => ?_)
  · simp [h]
    exact endA_pure (by simp)
  simp [h]
  refine condK_cases (fun h1 => ?_) (fun h1 => ?_)
  · simp
    exact endA_pure (by simp)
  simp at h h1
  simp
  refine wpc_loop (fun p : Nat × Nat => ⟨[.sl 1 (bytes ks) .unk, .sl 1 (bools lo) .unk, .any, .any, .bool false, .bool true, .ptr ((ns.sub 3).sub 1) 0, .int .i64 p.2, .int .i64 p.1, .any, .any, .any, .any, .any, .any, .any, .any, .any, .any, .any, .any, .any, .any, .any, .any, .any, .any, .any, .any, .any, .any, .any, .any, .any, .any, .any, .any, .any, .any, .any, .any, .any, .any, .any, .any, .any, .any, .any, .any, .any, .any, .any, .any, .any, .any, .any, .any, .any, .any, .any, .any, .any, .any, .any, .any, .any, .any, .any, .any, .any, .any, .any, .any, .any, .any, .any, .any, .any, .any, .any, .any, .any, .any, .any, .any, .any, .any, .any, .any, .any, .any, .any, .any, .any, .any, .any, .any, .any, .any, .any, .any, .any, .any, .any, .any, .any, .any, .any, .any, .any, .any, .any, .any, .any, .any, .any, .any, .any, .any, .any, .any, .any, .any, .any, .any, .any, .any, .any, .any], σ.up ((ns.sub 3).sub 1) (.var [.int .i64 (prev p.1).last, .int .i64 (prev p.1).reply.seq, .int .i64 (prev p.1).reply.kind, .sl 1 (ints (prev p.1).reply.nums) .unk]), ns, 6, []⟩)
    (fun p => ks.length - p.1) (fun p => p.1 ≤ ks.length ∧ p.2 ≤ 40 * p.1) (0, 0) (by simp) ⟨by simp, by simp⟩ (by repeat' first | exact AVsle.nil | refine AVsle.cons AVLe.le ?_ | refine AVsle.cons (AVle.refl _) ?_) (by simp only [show prev 0 = ⟨0, ⟨0, 0, []⟩⟩ from rfl]; exact StWkC.h) rfl ?_
  rintro ⟨i, at0⟩ k ⟨g1, g2⟩
  simp at g1 g2
  simp
  refine condK_cases (fun h3 => ?_) (fun h3 => ?_)
  · simp at h3
    have hb : ks[i]? = some ks[i] := List.getElem?_eq_getElem h3
    have hkb := hks ks[i] (List.getElem_mem h3)
    generalize ks[i] = kd at hb hkb
    simp
    refine wpc_loop (fun p : Nat × Nat × Bool × Bool => ⟨[.sl 1 (bytes ks) .unk, .sl 1 (bools lo) .unk, .any, .any, .bool false, .bool true, .ptr ((ns.sub 3).sub 1) 0, .int .i64 p.1, .int .i64 i, .int .i64 (if p.2.2.1 then 1 else 0), .bool p.2.2.2, .int .i64 p.2.1, .any, .any, .any, .any, .any, .any, .any, .any, .any, .any, .any, .any, .any, .any, .any, .any, .any, .any, .any, .any, .any, .any, .any, .any, .any, .any, .any, .any, .any, .any, .any, .any, .any, .any, .any, .any, .any, .any, .any, .any, .any, .any, .any, .any, .any, .any, .any, .any, .any, .any, .any, .any, .any, .any, .any, .any, .any, .any, .any, .any, .any, .any, .any, .any, .any, .any, .any, .any, .any, .any, .any, .any, .any, .any, .any, .any, .any, .any, .any, .any, .any, .any, .any, .any, .any, .any, .any, .any, .any, .any, .any, .any, .any, .any, .any, .any, .any, .any, .any, .any, .any, .any, .any, .any, .any, .any, .any, .any, .any, .any, .any, .any, .any, .any, .any, .any, .any], σ.up ((ns.sub 3).sub 1) (.var [.int .i64 (mid i p.2.2.1).last, .int .i64 (mid i p.2.2.1).reply.seq, .int .i64 (mid i p.2.2.1).reply.kind, .sl 1 (ints (mid i p.2.2.1).reply.nums) .unk]), (ns.sub 6).sub k, 4, []⟩)
      (fun p => 20 - p.2.1) (fun p => p.1 ≤ 40 * i + 2 * p.2.1 ∧ p.2.1 ≤ 17 ∧ (p.2.2.2 = true → p.2.2.1 = true) ∧ (p.2.2.2 = false → p.2.1 ≤ 16)) (at0, 0, false, false) (by simp) ⟨by simpa using g2, by simp, by simp, by simp⟩ (by repeat' first | exact AVsle.nil | refine AVsle.cons AVLe.le ?_ | refine AVsle.cons (AVle.refl _) ?_) (.refl _) rfl ?_
    rintro ⟨at1, n, d, a⟩ q ⟨g3, g4, g5, g6⟩
    simp at g3 g4 g5 g6
    have hn20 : (n : Int) < 20 := by omega
    simp [hn20]
    cases a with
    | true =>
      have hd := g5 rfl
      subst hd
      have hwi : IntKind.wrap .i64 ((i : Int) + 1) = (i : Int) + 1 := wrap64 (by omega) (by omega)
      have hp : prev (i + 1) = mid i true := by simp [prev, mid]
      simp [mid, hwi]
      refine loopG_normal (i + 1, at1) ⟨h3, by simp only; omega⟩ (by simp only; omega) (by repeat' first | exact AVsle.nil | refine AVsle.cons AVLe.le ?_ | refine AVsle.cons (AVle.refl _) ?_) (by simp only [hp]; exact .of_eq (by simp [mid, restoreS_up_out, restoreS_left_out, Nm.under_sub])) rfl
    | false =>
      have g7 := g6 rfl
      have hwi : IntKind.wrap .i64 ((i : Int) + 1) = (i : Int) + 1 := wrap64 (by omega) (by omega)
      have hwn : IntKind.wrap .i64 ((n : Int) + 1) = (n : Int) + 1 := wrap64 (by omega) (by omega)
      have hwa : IntKind.wrap .i64 ((at1 : Int) + 1) = (at1 : Int) + 1 := wrap64 (by omega) (by omega)
      have hwa2 : IntKind.wrap .i64 ((at1 : Int) + 1 + 1) = (at1 : Int) + 1 + 1 := wrap64 (by omega) (by omega)
      have hw9 : IntKind.wrap .i64 1 = 1 := by decide
      have h0a : (0 : Int) ≤ (at1 : Int) + 1 := by omega
      have hwk : IntKind.wrap .i64 kd = kd := wrap64 (by omega) (by omega)
      have hm : 0 ≤ kd.tmod 5 ∧ kd.tmod 5 < 5 := by
        rw [Int.tmod_eq_emod_of_nonneg hkb.1]; omega
      generalize hmm : kd.tmod 5 = m at hm
      have hwm : IntKind.wrap .i64 (m + 1) = m + 1 := wrap64 (by omega) (by omega)
      have hrec : receive (prev i) ⟨i + 1, m + 1, []⟩ = (⟨i + 1, ⟨0, 0, []⟩⟩, true, ⟨0, 0, []⟩) := by
        unfold prev
        split
        · rename_i h0; subst h0; exact receive_5 _ _ (by simp [rc]; omega) (by simp [rc]) (by simp [rc]) (by simp [rc, rc5]; decide)
        · exact receive_5 _ _ (by simp [rc]; omega) (by simp [rc]; intros; omega) (by simp [rc]; split <;> omega) (by simp [rc, rc5, hwi]; omega)
      simp
      by_cases ha : at1 < lo.length
      · have ha' : (at1 : Int) < lo.length := by omega
        have hl : lo[at1]? = some lo[at1] := List.getElem?_eq_getElem ha
        cases hb1 : lo[at1] with
        | true =>
          rw [hb1] at hl
          by_cases h16 : (n : Int) < 16
          · simp [ha, hl, hb1, h16, hwa, hwn]
            exact loopG_normal (at1 + 1, n + 1, d, false) ⟨by simp only; omega, by simp only; omega, by simp, by simp; omega⟩ (by simp only; omega) (by repeat' first | exact AVsle.nil | refine AVsle.cons AVLe.le ?_ | refine AVsle.cons (AVle.refl _) ?_) (.of_eq (by simp [restoreS_up_out, restoreS_left_out, Nm.under_sub])) rfl
          · simp [ha, hl, hb1, h16, hwa]
            refine wpc_draw (id := 17) [.take 1 [] [] [2, 10, 11, 12, 13, 14, 15, 18, 19, 20], .take 2 [] [] [10, 11, 12, 13, 14, 15, 18, 19, 20], .take 3 [] [] [5, 6, 7, 8, 9, 10, 11, 12, 13, 14, 15, 18, 19, 20], .take 4 [] [] [5, 6, 7, 8, 9, 10, 11, 12, 13, 14, 15, 18, 19, 20], .take 5 [] [] [6, 7, 8, 9, 10, 11, 12, 13, 14, 15, 18, 19, 20], .take 0 [16, 17] [] [11, 12, 13, 14, 15, 18, 19, 20], .take 6 [16, 17] [] [7, 8, 9, 10, 11, 12, 13, 14, 15, 18, 19, 20], .take 7 [] [] [8, 9, 10, 11, 12, 13, 14, 15, 18, 19, 20], .take 8 [] [] [9, 10, 11, 12, 13, 14, 15, 18, 19, 20], .take 9 [] [] [10, 11, 12, 13, 14, 15, 18, 19, 20], .take 10 [] [] [11, 12, 13, 14, 15, 18, 19, 20], .take 11 [] [] [12, 13, 14, 15, 18, 19, 20], .take 12 [] [] [13, 14, 15, 18, 19, 20], .take 13 [] [] [18, 19, 20], .take 14 [] [] [19, 20], .take 15 [] [] [20], .take 16 [] [] [18, 19, 20], .only 17, .only 18, .only 19, .only 20] (by kernel_rfl) ?_
            simp [hb, Nm.under_sub, hwi, hwk, hmm, hwm]
            cases d with
            | false =>
              have e1 : receive (mid i false) ⟨i + 1, m + 1, []⟩ = (⟨i + 1, ⟨0, 0, []⟩⟩, true, ⟨0, 0, []⟩) := by rw [show mid i false = prev i from by simp [mid]]; exact hrec
              refine callT_le (Receive_pure (mid i false) ⟨i + 1, m + 1, []⟩) ?_
              simp [e1, hw9]
              have e2 : complete ⟨(i : Int) + 1, ⟨0, 0, []⟩⟩ [(i : Int)] = (⟨i + 1, ⟨i + 1, 9, [(i : Int)]⟩⟩, ⟨i + 1, 9, [(i : Int)]⟩) := by unfold complete; rw [if_pos (by first | (simp; done) | (simp; omega))]
              refine Pure.use_le (args' := [(Ses.mk (i + 1) ⟨0, 0, []⟩).av, .sl 1 [[.int .i64 i]] .unk]) (Complete_pure ⟨(i : Int) + 1, ⟨0, 0, []⟩⟩ [(i : Int)] (by simp)) ?_
              simp [e2]
              by_cases ha2 : at1 + 1 < lo.length
              · have ha2' : (at1 : Int) + 1 < lo.length := by omega
                have hl2 : lo[at1 + 1]? = some lo[at1 + 1] := List.getElem?_eq_getElem ha2
                cases hb2 : lo[at1 + 1] with
                | true =>
                  rw [hb2] at hl2
                  by_cases h16' : (n : Int) < 16
                  · simp [h0a, ha2, ha2', hl2, hb2, h16', hwa2, hwn]
                    exact loopG_normal (at1 + 2, n + 1, true, false) ⟨(by first | omega | (simp; done) | (simp; omega) | (simp only; omega)), (by first | omega | (simp; done) | (simp; omega) | (simp only; omega)), (by first | omega | (simp; done) | (simp; omega) | (simp only; omega)), (by first | omega | (simp; done) | (simp; omega) | (simp only; omega))⟩ (by first | omega | (simp; done) | (simp; omega) | (simp only; omega)) (by repeat' first | exact AVsle.nil | refine AVsle.cons AVLe.le ?_ | refine AVsle.cons (AVle.refl _) ?_) (.of_eq (by simp [mid, restoreS_up_out, restoreS_left_out, Nm.under_sub])) rfl
                  · simp [h0a, ha2, ha2', hl2, hb2, h16', hwa2, hwi]
                    refine Pure.use_le (args' := [AV.agg [.int .i64 ((i : Int) + 1), .int .i64 9, .sl 1 [[.int .i64 i]] .unk], AV.agg [.int .i64 ((i : Int) + 1), .int .i64 9, .sl 1 [[.int .i64 i]] .unk]]) (SameMsg_pure ⟨i + 1, 9, [(i : Int)]⟩ ⟨i + 1, 9, [(i : Int)]⟩ (by simp)) ?_
                    simp [sameMsg, hwn]
                    exact loopG_normal (at1 + 2, n + 1, true, true) ⟨(by first | omega | (simp; done) | (simp; omega) | (simp only; omega)), (by first | omega | (simp; done) | (simp; omega) | (simp only; omega)), (by first | omega | (simp; done) | (simp; omega) | (simp only; omega)), (by first | omega | (simp; done) | (simp; omega) | (simp only; omega))⟩ (by first | omega | (simp; done) | (simp; omega) | (simp only; omega)) (by repeat' first | exact AVsle.nil | refine AVsle.cons AVLe.le ?_ | refine AVsle.cons (AVle.refl _) ?_) (.of_eq (by simp [mid, restoreS_up_out, restoreS_left_out, Nm.under_sub])) rfl
                | false =>
                  rw [hb2] at hl2
                  simp [h0a, ha2, ha2', hl2, hb2, hwa2, hwi]
                  refine Pure.use_le (args' := [AV.agg [.int .i64 ((i : Int) + 1), .int .i64 9, .sl 1 [[.int .i64 i]] .unk], AV.agg [.int .i64 ((i : Int) + 1), .int .i64 9, .sl 1 [[.int .i64 i]] .unk]]) (SameMsg_pure ⟨i + 1, 9, [(i : Int)]⟩ ⟨i + 1, 9, [(i : Int)]⟩ (by simp)) ?_
                  simp [sameMsg, hwn]
                  exact loopG_normal (at1 + 2, n + 1, true, true) ⟨(by first | omega | (simp; done) | (simp; omega) | (simp only; omega)), (by first | omega | (simp; done) | (simp; omega) | (simp only; omega)), (by first | omega | (simp; done) | (simp; omega) | (simp only; omega)), (by first | omega | (simp; done) | (simp; omega) | (simp only; omega))⟩ (by first | omega | (simp; done) | (simp; omega) | (simp only; omega)) (by repeat' first | exact AVsle.nil | refine AVsle.cons AVLe.le ?_ | refine AVsle.cons (AVle.refl _) ?_) (.of_eq (by simp [mid, restoreS_up_out, restoreS_left_out, Nm.under_sub])) rfl
              · have ha2'' : ¬ ((at1 : Int) + 1 < lo.length) := by omega
                simp [ha2, ha2'', hwa2, hwi]
                refine Pure.use_le (args' := [AV.agg [.int .i64 ((i : Int) + 1), .int .i64 9, .sl 1 [[.int .i64 i]] .unk], AV.agg [.int .i64 ((i : Int) + 1), .int .i64 9, .sl 1 [[.int .i64 i]] .unk]]) (SameMsg_pure ⟨i + 1, 9, [(i : Int)]⟩ ⟨i + 1, 9, [(i : Int)]⟩ (by simp)) ?_
                simp [sameMsg, hwn]
                exact loopG_normal (at1 + 2, n + 1, true, true) ⟨(by first | omega | (simp; done) | (simp; omega) | (simp only; omega)), (by first | omega | (simp; done) | (simp; omega) | (simp only; omega)), (by first | omega | (simp; done) | (simp; omega) | (simp only; omega)), (by first | omega | (simp; done) | (simp; omega) | (simp only; omega))⟩ (by first | omega | (simp; done) | (simp; omega) | (simp only; omega)) (by repeat' first | exact AVsle.nil | refine AVsle.cons AVLe.le ?_ | refine AVsle.cons (AVle.refl _) ?_) (.of_eq (by simp [mid, restoreS_up_out, restoreS_left_out, Nm.under_sub])) rfl
            | true =>
              have e1 : receive ⟨(i : Int) + 1, ⟨i + 1, 9, [(i : Int)]⟩⟩ ⟨i + 1, m + 1, []⟩ = (⟨i + 1, ⟨i + 1, 9, [(i : Int)]⟩⟩, false, ⟨i + 1, 9, [(i : Int)]⟩) := receive_2 _ _ (by simp [rc]; omega) (by first | (simp [rc]; done) | (simp [rc]; omega))
              simp [mid]
              refine callT_le (args' := [AV.agg [.int .i64 ((i : Int) + 1), .int .i64 ((i : Int) + 1), .int .i64 9, .sl 1 [[.int .i64 i]] .unk], (Msg.mk (i + 1) (m + 1) []).av]) (Receive_pure ⟨(i : Int) + 1, ⟨i + 1, 9, [(i : Int)]⟩⟩ ⟨i + 1, m + 1, []⟩) ?_
              simp [e1]
              by_cases ha2 : at1 + 1 < lo.length
              · have ha2' : (at1 : Int) + 1 < lo.length := by omega
                have hl2 : lo[at1 + 1]? = some lo[at1 + 1] := List.getElem?_eq_getElem ha2
                cases hb2 : lo[at1 + 1] with
                | true =>
                  rw [hb2] at hl2
                  by_cases h16' : (n : Int) < 16
                  · simp [h0a, ha2, ha2', hl2, hb2, h16', hwa2, hwn]
                    exact loopG_normal (at1 + 2, n + 1, true, false) ⟨(by first | omega | (simp; done) | (simp; omega) | (simp only; omega)), (by first | omega | (simp; done) | (simp; omega) | (simp only; omega)), (by first | omega | (simp; done) | (simp; omega) | (simp only; omega)), (by first | omega | (simp; done) | (simp; omega) | (simp only; omega))⟩ (by first | omega | (simp; done) | (simp; omega) | (simp only; omega)) (by repeat' first | exact AVsle.nil | refine AVsle.cons AVLe.le ?_ | refine AVsle.cons (AVle.refl _) ?_) (.of_eq (by simp [mid, restoreS_up_out, restoreS_left_out, Nm.under_sub])) rfl
                  · simp [h0a, ha2, ha2', hl2, hb2, h16', hwa2, hwi]
                    refine Pure.use_le (args' := [AV.agg [.int .i64 ((i : Int) + 1), .int .i64 9, .sl 1 [[.int .i64 i]] .unk], AV.agg [.int .i64 ((i : Int) + 1), .int .i64 9, .sl 1 [[.int .i64 i]] .unk]]) (SameMsg_pure ⟨i + 1, 9, [(i : Int)]⟩ ⟨i + 1, 9, [(i : Int)]⟩ (by simp)) ?_
                    simp [sameMsg, hwn]
                    exact loopG_normal (at1 + 2, n + 1, true, true) ⟨(by first | omega | (simp; done) | (simp; omega) | (simp only; omega)), (by first | omega | (simp; done) | (simp; omega) | (simp only; omega)), (by first | omega | (simp; done) | (simp; omega) | (simp only; omega)), (by first | omega | (simp; done) | (simp; omega) | (simp only; omega))⟩ (by first | omega | (simp; done) | (simp; omega) | (simp only; omega)) (by repeat' first | exact AVsle.nil | refine AVsle.cons AVLe.le ?_ | refine AVsle.cons (AVle.refl _) ?_) (.of_eq (by simp [mid, restoreS_up_out, restoreS_left_out, Nm.under_sub])) rfl
                | false =>
                  rw [hb2] at hl2
                  simp [h0a, ha2, ha2', hl2, hb2, hwa2, hwi]
                  refine Pure.use_le (args' := [AV.agg [.int .i64 ((i : Int) + 1), .int .i64 9, .sl 1 [[.int .i64 i]] .unk], AV.agg [.int .i64 ((i : Int) + 1), .int .i64 9, .sl 1 [[.int .i64 i]] .unk]]) (SameMsg_pure ⟨i + 1, 9, [(i : Int)]⟩ ⟨i + 1, 9, [(i : Int)]⟩ (by simp)) ?_
                  simp [sameMsg, hwn]
                  exact loopG_normal (at1 + 2, n + 1, true, true) ⟨(by first | omega | (simp; done) | (simp; omega) | (simp only; omega)), (by first | omega | (simp; done) | (simp; omega) | (simp only; omega)), (by first | omega | (simp; done) | (simp; omega) | (simp only; omega)), (by first | omega | (simp; done) | (simp; omega) | (simp only; omega))⟩ (by first | omega | (simp; done) | (simp; omega) | (simp only; omega)) (by repeat' first | exact AVsle.nil | refine AVsle.cons AVLe.le ?_ | refine AVsle.cons (AVle.refl _) ?_) (.of_eq (by simp [mid, restoreS_up_out, restoreS_left_out, Nm.under_sub])) rfl
              · have ha2'' : ¬ ((at1 : Int) + 1 < lo.length) := by omega
                simp [ha2, ha2'', hwa2, hwi]
                refine Pure.use_le (args' := [AV.agg [.int .i64 ((i : Int) + 1), .int .i64 9, .sl 1 [[.int .i64 i]] .unk], AV.agg [.int .i64 ((i : Int) + 1), .int .i64 9, .sl 1 [[.int .i64 i]] .unk]]) (SameMsg_pure ⟨i + 1, 9, [(i : Int)]⟩ ⟨i + 1, 9, [(i : Int)]⟩ (by simp)) ?_
                simp [sameMsg, hwn]
                exact loopG_normal (at1 + 2, n + 1, true, true) ⟨(by first | omega | (simp; done) | (simp; omega) | (simp only; omega)), (by first | omega | (simp; done) | (simp; omega) | (simp only; omega)), (by first | omega | (simp; done) | (simp; omega) | (simp only; omega)), (by first | omega | (simp; done) | (simp; omega) | (simp only; omega))⟩ (by first | omega | (simp; done) | (simp; omega) | (simp only; omega)) (by repeat' first | exact AVsle.nil | refine AVsle.cons AVLe.le ?_ | refine AVsle.cons (AVle.refl _) ?_) (.of_eq (by simp [mid, restoreS_up_out, restoreS_left_out, Nm.under_sub])) rfl
        | false =>
          rw [hb1] at hl
          simp [ha, hl, hb1, hwa]
          refine wpc_draw (id := 17) [.take 1 [] [] [2, 10, 11, 12, 13, 14, 15, 18, 19, 20], .take 2 [] [] [10, 11, 12, 13, 14, 15, 18, 19, 20], .take 3 [] [] [5, 6, 7, 8, 9, 10, 11, 12, 13, 14, 15, 18, 19, 20], .take 4 [] [] [5, 6, 7, 8, 9, 10, 11, 12, 13, 14, 15, 18, 19, 20], .take 5 [] [] [6, 7, 8, 9, 10, 11, 12, 13, 14, 15, 18, 19, 20], .take 0 [16, 17] [] [11, 12, 13, 14, 15, 18, 19, 20], .take 6 [16, 17] [] [7, 8, 9, 10, 11, 12, 13, 14, 15, 18, 19, 20], .take 7 [] [] [8, 9, 10, 11, 12, 13, 14, 15, 18, 19, 20], .take 8 [] [] [9, 10, 11, 12, 13, 14, 15, 18, 19, 20], .take 9 [] [] [10, 11, 12, 13, 14, 15, 18, 19, 20], .take 10 [] [] [11, 12, 13, 14, 15, 18, 19, 20], .take 11 [] [] [12, 13, 14, 15, 18, 19, 20], .take 12 [] [] [13, 14, 15, 18, 19, 20], .take 13 [] [] [18, 19, 20], .take 14 [] [] [19, 20], .take 15 [] [] [20], .take 16 [] [] [18, 19, 20], .only 17, .only 18, .only 19, .only 20] (by kernel_rfl) ?_
          simp [hb, Nm.under_sub, hwi, hwk, hmm, hwm]
          cases d with
          | false =>
            have e1 : receive (mid i false) ⟨i + 1, m + 1, []⟩ = (⟨i + 1, ⟨0, 0, []⟩⟩, true, ⟨0, 0, []⟩) := by rw [show mid i false = prev i from by simp [mid]]; exact hrec
            refine callT_le (Receive_pure (mid i false) ⟨i + 1, m + 1, []⟩) ?_
            simp [e1, hw9]
            have e2 : complete ⟨(i : Int) + 1, ⟨0, 0, []⟩⟩ [(i : Int)] = (⟨i + 1, ⟨i + 1, 9, [(i : Int)]⟩⟩, ⟨i + 1, 9, [(i : Int)]⟩) := by unfold complete; rw [if_pos (by first | (simp; done) | (simp; omega))]
            refine Pure.use_le (args' := [(Ses.mk (i + 1) ⟨0, 0, []⟩).av, .sl 1 [[.int .i64 i]] .unk]) (Complete_pure ⟨(i : Int) + 1, ⟨0, 0, []⟩⟩ [(i : Int)] (by simp)) ?_
            simp [e2]
            by_cases ha2 : at1 + 1 < lo.length
            · have ha2' : (at1 : Int) + 1 < lo.length := by omega
              have hl2 : lo[at1 + 1]? = some lo[at1 + 1] := List.getElem?_eq_getElem ha2
              cases hb2 : lo[at1 + 1] with
              | true =>
                rw [hb2] at hl2
                by_cases h16' : (n : Int) < 16
                · simp [h0a, ha2, ha2', hl2, hb2, h16', hwa2, hwn]
                  exact loopG_normal (at1 + 2, n + 1, true, false) ⟨(by first | omega | (simp; done) | (simp; omega) | (simp only; omega)), (by first | omega | (simp; done) | (simp; omega) | (simp only; omega)), (by first | omega | (simp; done) | (simp; omega) | (simp only; omega)), (by first | omega | (simp; done) | (simp; omega) | (simp only; omega))⟩ (by first | omega | (simp; done) | (simp; omega) | (simp only; omega)) (by repeat' first | exact AVsle.nil | refine AVsle.cons AVLe.le ?_ | refine AVsle.cons (AVle.refl _) ?_) (.of_eq (by simp [mid, restoreS_up_out, restoreS_left_out, Nm.under_sub])) rfl
                · simp [h0a, ha2, ha2', hl2, hb2, h16', hwa2, hwi]
                  refine Pure.use_le (args' := [AV.agg [.int .i64 ((i : Int) + 1), .int .i64 9, .sl 1 [[.int .i64 i]] .unk], AV.agg [.int .i64 ((i : Int) + 1), .int .i64 9, .sl 1 [[.int .i64 i]] .unk]]) (SameMsg_pure ⟨i + 1, 9, [(i : Int)]⟩ ⟨i + 1, 9, [(i : Int)]⟩ (by simp)) ?_
                  simp [sameMsg, hwn]
                  exact loopG_normal (at1 + 2, n + 1, true, true) ⟨(by first | omega | (simp; done) | (simp; omega) | (simp only; omega)), (by first | omega | (simp; done) | (simp; omega) | (simp only; omega)), (by first | omega | (simp; done) | (simp; omega) | (simp only; omega)), (by first | omega | (simp; done) | (simp; omega) | (simp only; omega))⟩ (by first | omega | (simp; done) | (simp; omega) | (simp only; omega)) (by repeat' first | exact AVsle.nil | refine AVsle.cons AVLe.le ?_ | refine AVsle.cons (AVle.refl _) ?_) (.of_eq (by simp [mid, restoreS_up_out, restoreS_left_out, Nm.under_sub])) rfl
              | false =>
                rw [hb2] at hl2
                simp [h0a, ha2, ha2', hl2, hb2, hwa2, hwi]
                refine Pure.use_le (args' := [AV.agg [.int .i64 ((i : Int) + 1), .int .i64 9, .sl 1 [[.int .i64 i]] .unk], AV.agg [.int .i64 ((i : Int) + 1), .int .i64 9, .sl 1 [[.int .i64 i]] .unk]]) (SameMsg_pure ⟨i + 1, 9, [(i : Int)]⟩ ⟨i + 1, 9, [(i : Int)]⟩ (by simp)) ?_
                simp [sameMsg, hwn]
                exact loopG_normal (at1 + 2, n + 1, true, true) ⟨(by first | omega | (simp; done) | (simp; omega) | (simp only; omega)), (by first | omega | (simp; done) | (simp; omega) | (simp only; omega)), (by first | omega | (simp; done) | (simp; omega) | (simp only; omega)), (by first | omega | (simp; done) | (simp; omega) | (simp only; omega))⟩ (by first | omega | (simp; done) | (simp; omega) | (simp only; omega)) (by repeat' first | exact AVsle.nil | refine AVsle.cons AVLe.le ?_ | refine AVsle.cons (AVle.refl _) ?_) (.of_eq (by simp [mid, restoreS_up_out, restoreS_left_out, Nm.under_sub])) rfl
            · have ha2'' : ¬ ((at1 : Int) + 1 < lo.length) := by omega
              simp [ha2, ha2'', hwa2, hwi]
              refine Pure.use_le (args' := [AV.agg [.int .i64 ((i : Int) + 1), .int .i64 9, .sl 1 [[.int .i64 i]] .unk], AV.agg [.int .i64 ((i : Int) + 1), .int .i64 9, .sl 1 [[.int .i64 i]] .unk]]) (SameMsg_pure ⟨i + 1, 9, [(i : Int)]⟩ ⟨i + 1, 9, [(i : Int)]⟩ (by simp)) ?_
              simp [sameMsg, hwn]
              exact loopG_normal (at1 + 2, n + 1, true, true) ⟨(by first | omega | (simp; done) | (simp; omega) | (simp only; omega)), (by first | omega | (simp; done) | (simp; omega) | (simp only; omega)), (by first | omega | (simp; done) | (simp; omega) | (simp only; omega)), (by first | omega | (simp; done) | (simp; omega) | (simp only; omega))⟩ (by first | omega | (simp; done) | (simp; omega) | (simp only; omega)) (by repeat' first | exact AVsle.nil | refine AVsle.cons AVLe.le ?_ | refine AVsle.cons (AVle.refl _) ?_) (.of_eq (by simp [mid, restoreS_up_out, restoreS_left_out, Nm.under_sub])) rfl
          | true =>
            have e1 : receive ⟨(i : Int) + 1, ⟨i + 1, 9, [(i : Int)]⟩⟩ ⟨i + 1, m + 1, []⟩ = (⟨i + 1, ⟨i + 1, 9, [(i : Int)]⟩⟩, false, ⟨i + 1, 9, [(i : Int)]⟩) := receive_2 _ _ (by simp [rc]; omega) (by first | (simp [rc]; done) | (simp [rc]; omega))
            simp [mid]
            refine callT_le (args' := [AV.agg [.int .i64 ((i : Int) + 1), .int .i64 ((i : Int) + 1), .int .i64 9, .sl 1 [[.int .i64 i]] .unk], (Msg.mk (i + 1) (m + 1) []).av]) (Receive_pure ⟨(i : Int) + 1, ⟨i + 1, 9, [(i : Int)]⟩⟩ ⟨i + 1, m + 1, []⟩) ?_
            simp [e1]
            by_cases ha2 : at1 + 1 < lo.length
            · have ha2' : (at1 : Int) + 1 < lo.length := by omega
              have hl2 : lo[at1 + 1]? = some lo[at1 + 1] := List.getElem?_eq_getElem ha2
              cases hb2 : lo[at1 + 1] with
              | true =>
                rw [hb2] at hl2
                by_cases h16' : (n : Int) < 16
                · simp [h0a, ha2, ha2', hl2, hb2, h16', hwa2, hwn]
                  exact loopG_normal (at1 + 2, n + 1, true, false) ⟨(by first | omega | (simp; done) | (simp; omega) | (simp only; omega)), (by first | omega | (simp; done) | (simp; omega) | (simp only; omega)), (by first | omega | (simp; done) | (simp; omega) | (simp only; omega)), (by first | omega | (simp; done) | (simp; omega) | (simp only; omega))⟩ (by first | omega | (simp; done) | (simp; omega) | (simp only; omega)) (by repeat' first | exact AVsle.nil | refine AVsle.cons AVLe.le ?_ | refine AVsle.cons (AVle.refl _) ?_) (.of_eq (by simp [mid, restoreS_up_out, restoreS_left_out, Nm.under_sub])) rfl
                · simp [h0a, ha2, ha2', hl2, hb2, h16', hwa2, hwi]
                  refine Pure.use_le (args' := [AV.agg [.int .i64 ((i : Int) + 1), .int .i64 9, .sl 1 [[.int .i64 i]] .unk], AV.agg [.int .i64 ((i : Int) + 1), .int .i64 9, .sl 1 [[.int .i64 i]] .unk]]) (SameMsg_pure ⟨i + 1, 9, [(i : Int)]⟩ ⟨i + 1, 9, [(i : Int)]⟩ (by simp)) ?_
                  simp [sameMsg, hwn]
                  exact loopG_normal (at1 + 2, n + 1, true, true) ⟨(by first | omega | (simp; done) | (simp; omega) | (simp only; omega)), (by first | omega | (simp; done) | (simp; omega) | (simp only; omega)), (by first | omega | (simp; done) | (simp; omega) | (simp only; omega)), (by first | omega | (simp; done) | (simp; omega) | (simp only; omega))⟩ (by first | omega | (simp; done) | (simp; omega) | (simp only; omega)) (by repeat' first | exact AVsle.nil | refine AVsle.cons AVLe.le ?_ | refine AVsle.cons (AVle.refl _) ?_) (.of_eq (by simp [mid, restoreS_up_out, restoreS_left_out, Nm.under_sub])) rfl
              | false =>
                rw [hb2] at hl2
                simp [h0a, ha2, ha2', hl2, hb2, hwa2, hwi]
                refine Pure.use_le (args' := [AV.agg [.int .i64 ((i : Int) + 1), .int .i64 9, .sl 1 [[.int .i64 i]] .unk], AV.agg [.int .i64 ((i : Int) + 1), .int .i64 9, .sl 1 [[.int .i64 i]] .unk]]) (SameMsg_pure ⟨i + 1, 9, [(i : Int)]⟩ ⟨i + 1, 9, [(i : Int)]⟩ (by simp)) ?_
                simp [sameMsg, hwn]
                exact loopG_normal (at1 + 2, n + 1, true, true) ⟨(by first | omega | (simp; done) | (simp; omega) | (simp only; omega)), (by first | omega | (simp; done) | (simp; omega) | (simp only; omega)), (by first | omega | (simp; done) | (simp; omega) | (simp only; omega)), (by first | omega | (simp; done) | (simp; omega) | (simp only; omega))⟩ (by first | omega | (simp; done) | (simp; omega) | (simp only; omega)) (by repeat' first | exact AVsle.nil | refine AVsle.cons AVLe.le ?_ | refine AVsle.cons (AVle.refl _) ?_) (.of_eq (by simp [mid, restoreS_up_out, restoreS_left_out, Nm.under_sub])) rfl
            · have ha2'' : ¬ ((at1 : Int) + 1 < lo.length) := by omega
              simp [ha2, ha2'', hwa2, hwi]
              refine Pure.use_le (args' := [AV.agg [.int .i64 ((i : Int) + 1), .int .i64 9, .sl 1 [[.int .i64 i]] .unk], AV.agg [.int .i64 ((i : Int) + 1), .int .i64 9, .sl 1 [[.int .i64 i]] .unk]]) (SameMsg_pure ⟨i + 1, 9, [(i : Int)]⟩ ⟨i + 1, 9, [(i : Int)]⟩ (by simp)) ?_
              simp [sameMsg, hwn]
              exact loopG_normal (at1 + 2, n + 1, true, true) ⟨(by first | omega | (simp; done) | (simp; omega) | (simp only; omega)), (by first | omega | (simp; done) | (simp; omega) | (simp only; omega)), (by first | omega | (simp; done) | (simp; omega) | (simp only; omega)), (by first | omega | (simp; done) | (simp; omega) | (simp only; omega))⟩ (by first | omega | (simp; done) | (simp; omega) | (simp only; omega)) (by repeat' first | exact AVsle.nil | refine AVsle.cons AVLe.le ?_ | refine AVsle.cons (AVle.refl _) ?_) (.of_eq (by simp [mid, restoreS_up_out, restoreS_left_out, Nm.under_sub])) rfl
      · simp [ha, hwa]
        refine wpc_draw (id := 17) [.take 1 [] [] [2, 10, 11, 12, 13, 14, 15, 18, 19, 20], .take 2 [] [] [10, 11, 12, 13, 14, 15, 18, 19, 20], .take 3 [] [] [5, 6, 7, 8, 9, 10, 11, 12, 13, 14, 15, 18, 19, 20], .take 4 [] [] [5, 6, 7, 8, 9, 10, 11, 12, 13, 14, 15, 18, 19, 20], .take 5 [] [] [6, 7, 8, 9, 10, 11, 12, 13, 14, 15, 18, 19, 20], .take 0 [16, 17] [] [11, 12, 13, 14, 15, 18, 19, 20], .take 6 [16, 17] [] [7, 8, 9, 10, 11, 12, 13, 14, 15, 18, 19, 20], .take 7 [] [] [8, 9, 10, 11, 12, 13, 14, 15, 18, 19, 20], .take 8 [] [] [9, 10, 11, 12, 13, 14, 15, 18, 19, 20], .take 9 [] [] [10, 11, 12, 13, 14, 15, 18, 19, 20], .take 10 [] [] [11, 12, 13, 14, 15, 18, 19, 20], .take 11 [] [] [12, 13, 14, 15, 18, 19, 20], .take 12 [] [] [13, 14, 15, 18, 19, 20], .take 13 [] [] [18, 19, 20], .take 14 [] [] [19, 20], .take 15 [] [] [20], .take 16 [] [] [18, 19, 20], .only 17, .only 18, .only 19, .only 20] (by kernel_rfl) ?_
        simp [hb, Nm.under_sub, hwi, hwk, hmm, hwm]
        cases d with
        | false =>
          have e1 : receive (mid i false) ⟨i + 1, m + 1, []⟩ = (⟨i + 1, ⟨0, 0, []⟩⟩, true, ⟨0, 0, []⟩) := by rw [show mid i false = prev i from by simp [mid]]; exact hrec
          refine callT_le (Receive_pure (mid i false) ⟨i + 1, m + 1, []⟩) ?_
          simp [e1, hw9]
          have e2 : complete ⟨(i : Int) + 1, ⟨0, 0, []⟩⟩ [(i : Int)] = (⟨i + 1, ⟨i + 1, 9, [(i : Int)]⟩⟩, ⟨i + 1, 9, [(i : Int)]⟩) := by unfold complete; rw [if_pos (by first | (simp; done) | (simp; omega))]
          refine Pure.use_le (args' := [(Ses.mk (i + 1) ⟨0, 0, []⟩).av, .sl 1 [[.int .i64 i]] .unk]) (Complete_pure ⟨(i : Int) + 1, ⟨0, 0, []⟩⟩ [(i : Int)] (by simp)) ?_
          simp [e2]
          by_cases ha2 : at1 + 1 < lo.length
          · have ha2' : (at1 : Int) + 1 < lo.length := by omega
            have hl2 : lo[at1 + 1]? = some lo[at1 + 1] := List.getElem?_eq_getElem ha2
            cases hb2 : lo[at1 + 1] with
            | true =>
              rw [hb2] at hl2
              by_cases h16' : (n : Int) < 16
              · simp [h0a, ha2, ha2', hl2, hb2, h16', hwa2, hwn]
                exact loopG_normal (at1 + 2, n + 1, true, false) ⟨(by first | omega | (simp; done) | (simp; omega) | (simp only; omega)), (by first | omega | (simp; done) | (simp; omega) | (simp only; omega)), (by first | omega | (simp; done) | (simp; omega) | (simp only; omega)), (by first | omega | (simp; done) | (simp; omega) | (simp only; omega))⟩ (by first | omega | (simp; done) | (simp; omega) | (simp only; omega)) (by repeat' first | exact AVsle.nil | refine AVsle.cons AVLe.le ?_ | refine AVsle.cons (AVle.refl _) ?_) (.of_eq (by simp [mid, restoreS_up_out, restoreS_left_out, Nm.under_sub])) rfl
              · simp [h0a, ha2, ha2', hl2, hb2, h16', hwa2, hwi]
                refine Pure.use_le (args' := [AV.agg [.int .i64 ((i : Int) + 1), .int .i64 9, .sl 1 [[.int .i64 i]] .unk], AV.agg [.int .i64 ((i : Int) + 1), .int .i64 9, .sl 1 [[.int .i64 i]] .unk]]) (SameMsg_pure ⟨i + 1, 9, [(i : Int)]⟩ ⟨i + 1, 9, [(i : Int)]⟩ (by simp)) ?_
                simp [sameMsg, hwn]
                exact loopG_normal (at1 + 2, n + 1, true, true) ⟨(by first | omega | (simp; done) | (simp; omega) | (simp only; omega)), (by first | omega | (simp; done) | (simp; omega) | (simp only; omega)), (by first | omega | (simp; done) | (simp; omega) | (simp only; omega)), (by first | omega | (simp; done) | (simp; omega) | (simp only; omega))⟩ (by first | omega | (simp; done) | (simp; omega) | (simp only; omega)) (by repeat' first | exact AVsle.nil | refine AVsle.cons AVLe.le ?_ | refine AVsle.cons (AVle.refl _) ?_) (.of_eq (by simp [mid, restoreS_up_out, restoreS_left_out, Nm.under_sub])) rfl
            | false =>
              rw [hb2] at hl2
              simp [h0a, ha2, ha2', hl2, hb2, hwa2, hwi]
              refine Pure.use_le (args' := [AV.agg [.int .i64 ((i : Int) + 1), .int .i64 9, .sl 1 [[.int .i64 i]] .unk], AV.agg [.int .i64 ((i : Int) + 1), .int .i64 9, .sl 1 [[.int .i64 i]] .unk]]) (SameMsg_pure ⟨i + 1, 9, [(i : Int)]⟩ ⟨i + 1, 9, [(i : Int)]⟩ (by simp)) ?_
              simp [sameMsg, hwn]
              exact loopG_normal (at1 + 2, n + 1, true, true) ⟨(by first | omega | (simp; done) | (simp; omega) | (simp only; omega)), (by first | omega | (simp; done) | (simp; omega) | (simp only; omega)), (by first | omega | (simp; done) | (simp; omega) | (simp only; omega)), (by first | omega | (simp; done) | (simp; omega) | (simp only; omega))⟩ (by first | omega | (simp; done) | (simp; omega) | (simp only; omega)) (by repeat' first | exact AVsle.nil | refine AVsle.cons AVLe.le ?_ | refine AVsle.cons (AVle.refl _) ?_) (.of_eq (by simp [mid, restoreS_up_out, restoreS_left_out, Nm.under_sub])) rfl
          · have ha2'' : ¬ ((at1 : Int) + 1 < lo.length) := by omega
            simp [ha2, ha2'', hwa2, hwi]
            refine Pure.use_le (args' := [AV.agg [.int .i64 ((i : Int) + 1), .int .i64 9, .sl 1 [[.int .i64 i]] .unk], AV.agg [.int .i64 ((i : Int) + 1), .int .i64 9, .sl 1 [[.int .i64 i]] .unk]]) (SameMsg_pure ⟨i + 1, 9, [(i : Int)]⟩ ⟨i + 1, 9, [(i : Int)]⟩ (by simp)) ?_
            simp [sameMsg, hwn]
            exact loopG_normal (at1 + 2, n + 1, true, true) ⟨(by first | omega | (simp; done) | (simp; omega) | (simp only; omega)), (by first | omega | (simp; done) | (simp; omega) | (simp only; omega)), (by first | omega | (simp; done) | (simp; omega) | (simp only; omega)), (by first | omega | (simp; done) | (simp; omega) | (simp only; omega))⟩ (by first | omega | (simp; done) | (simp; omega) | (simp only; omega)) (by repeat' first | exact AVsle.nil | refine AVsle.cons AVLe.le ?_ | refine AVsle.cons (AVle.refl _) ?_) (.of_eq (by simp [mid, restoreS_up_out, restoreS_left_out, Nm.under_sub])) rfl
        | true =>
          have e1 : receive ⟨(i : Int) + 1, ⟨i + 1, 9, [(i : Int)]⟩⟩ ⟨i + 1, m + 1, []⟩ = (⟨i + 1, ⟨i + 1, 9, [(i : Int)]⟩⟩, false, ⟨i + 1, 9, [(i : Int)]⟩) := receive_2 _ _ (by simp [rc]; omega) (by first | (simp [rc]; done) | (simp [rc]; omega))
          simp [mid]
          refine callT_le (args' := [AV.agg [.int .i64 ((i : Int) + 1), .int .i64 ((i : Int) + 1), .int .i64 9, .sl 1 [[.int .i64 i]] .unk], (Msg.mk (i + 1) (m + 1) []).av]) (Receive_pure ⟨(i : Int) + 1, ⟨i + 1, 9, [(i : Int)]⟩⟩ ⟨i + 1, m + 1, []⟩) ?_
          simp [e1]
          by_cases ha2 : at1 + 1 < lo.length
          · have ha2' : (at1 : Int) + 1 < lo.length := by omega
            have hl2 : lo[at1 + 1]? = some lo[at1 + 1] := List.getElem?_eq_getElem ha2
            cases hb2 : lo[at1 + 1] with
            | true =>
              rw [hb2] at hl2
              by_cases h16' : (n : Int) < 16
              · simp [h0a, ha2, ha2', hl2, hb2, h16', hwa2, hwn]
                exact loopG_normal (at1 + 2, n + 1, true, false) ⟨(by first | omega | (simp; done) | (simp; omega) | (simp only; omega)), (by first | omega | (simp; done) | (simp; omega) | (simp only; omega)), (by first | omega | (simp; done) | (simp; omega) | (simp only; omega)), (by first | omega | (simp; done) | (simp; omega) | (simp only; omega))⟩ (by first | omega | (simp; done) | (simp; omega) | (simp only; omega)) (by repeat' first | exact AVsle.nil | refine AVsle.cons AVLe.le ?_ | refine AVsle.cons (AVle.refl _) ?_) (.of_eq (by simp [mid, restoreS_up_out, restoreS_left_out, Nm.under_sub])) rfl
              · simp [h0a, ha2, ha2', hl2, hb2, h16', hwa2, hwi]
                refine Pure.use_le (args' := [AV.agg [.int .i64 ((i : Int) + 1), .int .i64 9, .sl 1 [[.int .i64 i]] .unk], AV.agg [.int .i64 ((i : Int) + 1), .int .i64 9, .sl 1 [[.int .i64 i]] .unk]]) (SameMsg_pure ⟨i + 1, 9, [(i : Int)]⟩ ⟨i + 1, 9, [(i : Int)]⟩ (by simp)) ?_
                simp [sameMsg, hwn]
                exact loopG_normal (at1 + 2, n + 1, true, true) ⟨(by first | omega | (simp; done) | (simp; omega) | (simp only; omega)), (by first | omega | (simp; done) | (simp; omega) | (simp only; omega)), (by first | omega | (simp; done) | (simp; omega) | (simp only; omega)), (by first | omega | (simp; done) | (simp; omega) | (simp only; omega))⟩ (by first | omega | (simp; done) | (simp; omega) | (simp only; omega)) (by repeat' first | exact AVsle.nil | refine AVsle.cons AVLe.le ?_ | refine AVsle.cons (AVle.refl _) ?_) (.of_eq (by simp [mid, restoreS_up_out, restoreS_left_out, Nm.under_sub])) rfl
            | false =>
              rw [hb2] at hl2
              simp [h0a, ha2, ha2', hl2, hb2, hwa2, hwi]
              refine Pure.use_le (args' := [AV.agg [.int .i64 ((i : Int) + 1), .int .i64 9, .sl 1 [[.int .i64 i]] .unk], AV.agg [.int .i64 ((i : Int) + 1), .int .i64 9, .sl 1 [[.int .i64 i]] .unk]]) (SameMsg_pure ⟨i + 1, 9, [(i : Int)]⟩ ⟨i + 1, 9, [(i : Int)]⟩ (by simp)) ?_
              simp [sameMsg, hwn]
              exact loopG_normal (at1 + 2, n + 1, true, true) ⟨(by first | omega | (simp; done) | (simp; omega) | (simp only; omega)), (by first | omega | (simp; done) | (simp; omega) | (simp only; omega)), (by first | omega | (simp; done) | (simp; omega) | (simp only; omega)), (by first | omega | (simp; done) | (simp; omega) | (simp only; omega))⟩ (by first | omega | (simp; done) | (simp; omega) | (simp only; omega)) (by repeat' first | exact AVsle.nil | refine AVsle.cons AVLe.le ?_ | refine AVsle.cons (AVle.refl _) ?_) (.of_eq (by simp [mid, restoreS_up_out, restoreS_left_out, Nm.under_sub])) rfl
          · have ha2'' : ¬ ((at1 : Int) + 1 < lo.length) := by omega
            simp [ha2, ha2'', hwa2, hwi]
            refine Pure.use_le (args' := [AV.agg [.int .i64 ((i : Int) + 1), .int .i64 9, .sl 1 [[.int .i64 i]] .unk], AV.agg [.int .i64 ((i : Int) + 1), .int .i64 9, .sl 1 [[.int .i64 i]] .unk]]) (SameMsg_pure ⟨i + 1, 9, [(i : Int)]⟩ ⟨i + 1, 9, [(i : Int)]⟩ (by simp)) ?_
            simp [sameMsg, hwn]
            exact loopG_normal (at1 + 2, n + 1, true, true) ⟨(by first | omega | (simp; done) | (simp; omega) | (simp only; omega)), (by first | omega | (simp; done) | (simp; omega) | (simp only; omega)), (by first | omega | (simp; done) | (simp; omega) | (simp only; omega)), (by first | omega | (simp; done) | (simp; omega) | (simp only; omega))⟩ (by first | omega | (simp; done) | (simp; omega) | (simp only; omega)) (by repeat' first | exact AVsle.nil | refine AVsle.cons AVLe.le ?_ | refine AVsle.cons (AVle.refl _) ?_) (.of_eq (by simp [mid, restoreS_up_out, restoreS_left_out, Nm.under_sub])) rfl
  · simp
    exact endA_pure (by simp)
end Go.Proofs
