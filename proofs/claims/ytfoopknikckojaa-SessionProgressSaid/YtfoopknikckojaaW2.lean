/- Walks: Hear, Complete, Done. -/
import Derived.Test.YtfoopknikckojaaW1
set_option linter.unusedVariables false
set_option linter.unusedSimpArgs false
namespace Go.Proofs
open Go Go.Abs
attribute [local irreducible] wpc aSeq awAny endA guardK condK CallK callT aPlan onlyL takeL aeffK takeE loopG bodyA thenA inBlockA
theorem receive_1 (t : Ses) (m : Msg) (h0 : rc t m 0 = true) : receive t m = (t, false, ⟨m.seq, 4, []⟩) := by simp [receive, h0]
theorem receive_2 (t : Ses) (m : Msg) (h0 : rc t m 0 = false) (h1 : rc t m 1 = true) : receive t m = (t, false, t.reply) := by simp [receive, h0, h1]
theorem receive_3 (t : Ses) (m : Msg) (h0 : rc t m 0 = false) (h1 : rc t m 1 = false) (h2 : rc t m 2 = true) : receive t m = (t, false, ⟨m.seq, 330, []⟩) := by simp [receive, h0, h1, h2]
theorem receive_4 (t : Ses) (m : Msg) (h0 : rc t m 0 = false) (h1 : rc t m 1 = false) (h2 : rc t m 2 = false) (h3 : rc t m 3 = true) : receive t m = (t, false, ⟨m.seq, 331, []⟩) := by simp [receive, h0, h1, h2, h3]
theorem receive_5 (t : Ses) (m : Msg) (h0 : rc t m 0 = false) (h1 : rc t m 1 = false) (h2 : rc t m 2 = false) (h3 : rc t m 3 = false) : receive t m = (⟨m.seq, ⟨0, 0, []⟩⟩, true, ⟨0, 0, []⟩) := by simp [receive, h0, h1, h2, h3]
set_option maxHeartbeats 4000000 in
theorem Hear_pure (t : Ses) (m : Msg) : Pure Try.prog 15 [t.av, m.av] (recAV (receive t m)) := by
  intro σ ns
  refine acalls_of_wpc Try.mixed Try.func15 rfl Try.en15 ?_
  simp [Try.ntmps15]
  repeat' first
    | (refine guardK_cases (fun h => ?_) (fun h => ?_) <;> simp [h])
    | (refine condK_cases (fun h => ?_) (fun h => ?_) <;> simp [h])
    | (refine wpc_draw (id := 2) [.take 1 [] [] [2, 3, 6], .take 0 [] [] [4, 5, 6], .take 2 [] [4] [3, 6], .take 3 [] [] [6], .only 4, .only 5, .only 6] (by kernel_rfl) ?_; simp)
    | (refine wpc_draw (id := 4) [.take 1 [] [] [2, 5], .take 0 [] [] [3, 4, 5], .take 2 [] [4] [5], .only 3, .only 4, .only 5] (by kernel_rfl) ?_; simp)
    | (refine wpc_draw (id := 6) [.take 1 [] [] [2, 3, 6], .take 0 [] [] [4, 5, 6], .take 2 [] [4] [3, 6], .take 3 [] [] [6], .only 4, .only 5, .only 6] (by kernel_rfl) ?_; simp)
    | (refine wpc_draw (id := 8) [.take 1 [] [] [2, 3, 6], .take 0 [] [] [4, 5, 6], .take 2 [] [4] [3, 6], .take 3 [] [] [6], .only 4, .only 5, .only 6] (by kernel_rfl) ?_; simp)
    | (refine Pure.use_le (Busy_pure t) ?_; simp)
  all_goals first
    | (rw [receive_1 t m (by first | (simp [rc, rc5] at *; omega) | (simp [rc, rc5] at *; done))]; exact endA_le (by simp))
    | (rw [receive_2 t m (by first | (simp [rc, rc5] at *; omega) | (simp [rc, rc5] at *; done)) (by first | (simp [rc, rc5] at *; omega) | (simp [rc, rc5] at *; done))]; exact endA_le (by simp))
    | (rw [receive_3 t m (by first | (simp [rc, rc5] at *; omega) | (simp [rc, rc5] at *; done)) (by first | (simp [rc, rc5] at *; omega) | (simp [rc, rc5] at *; done)) (by first | (simp [rc, rc5] at *; omega) | (simp [rc, rc5] at *; done))]; exact endA_le (by simp))
    | (rw [receive_4 t m (by first | (simp [rc, rc5] at *; omega) | (simp [rc, rc5] at *; done)) (by first | (simp [rc, rc5] at *; omega) | (simp [rc, rc5] at *; done)) (by first | (simp [rc, rc5] at *; omega) | (simp [rc, rc5] at *; done)) (by first | (simp [rc, rc5] at *; omega) | (simp [rc, rc5] at *; done))]; exact endA_le (by simp))
    | (rw [receive_5 t m (by first | (simp [rc, rc5] at *; omega) | (simp [rc, rc5] at *; done)) (by first | (simp [rc, rc5] at *; omega) | (simp [rc, rc5] at *; done)) (by first | (simp [rc, rc5] at *; omega) | (simp [rc, rc5] at *; done)) (by first | (simp [rc, rc5] at *; omega) | (simp [rc, rc5] at *; done))]; exact endA_le (by simp))
    | trace_state
def complete (t : Ses) (l : List Int) : Ses × Msg :=
  if (decide (0 < t.last) && (t.reply.kind == 0)) then (⟨t.last, ⟨t.last, 9, l⟩⟩, ⟨t.last, 9, l⟩) else (t, ⟨0, 0, []⟩)
abbrev comAV (r : Ses × Msg) : AV := .tup [r.1.av, r.2.av]
theorem Complete_pure (t : Ses) (l : List Int) (hl : l.length ≤ 1000) : Pure Try.prog 16 [t.av, .sl 1 (ints l) .unk] (comAV (complete t l)) := by
  intro σ ns
  refine acalls_of_wpc Try.mixed Try.func16 rfl Try.en16 ?_
  simp [Try.ntmps16]
  refine Pure.use_le (busy_pure t) ?_
  simp
  refine condK_cases (fun h => ?_) (fun h => ?_)
  · simp
    have e : complete t l = (t, ⟨0, 0, []⟩) := by simp at h; simp [complete]; first | omega | (intro _; omega)
    rw [e]; exact endA_le (by simp)
  · simp
    refine wpc_draw (id := 3) [.take 0 [] [] [1, 4, 5, 6], .take 2 [] [] [3, 4, 5, 6], .take 3 [] [] [4, 5, 6], .only 1, .only 4, .only 5, .only 6] (by kernel_rfl) ?_
    simp
    refine callT_le (Clone_pure l hl) ?_
    simp
    refine wpc_draw (id := 4) [.take 1 [] [] [2, 4], .take 0 [] [] [3, 4], .take 2 [] [4] [4], .only 3, .only 4] (by kernel_rfl) ?_
    simp
    have e : complete t l = (⟨t.last, ⟨t.last, 9, l⟩⟩, ⟨t.last, 9, l⟩) := by simp at h; simp [complete]; first | omega | (intro _; omega)
    rw [e]; exact endA_le (by simp)
theorem Done_pure (t : Ses) (l : List Int) (hl : l.length ≤ 1000) : Pure Try.prog 17 [t.av, .sl 1 (ints l) .unk] (comAV (complete t l)) := by
  intro σ ns
  refine acalls_of_wpc Try.mixed Try.func17 rfl Try.en17 ?_
  simp [Try.ntmps17]
  refine Pure.use_le (Busy_pure t) ?_
  simp
  refine condK_cases (fun h => ?_) (fun h => ?_)
  · simp
    have e : complete t l = (t, ⟨0, 0, []⟩) := by simp at h; simp [complete]; first | omega | (intro _; omega)
    rw [e]; exact endA_le (by simp)
  · have e : complete t l = (⟨t.last, ⟨t.last, 9, l⟩⟩, ⟨t.last, 9, l⟩) := by simp at h; simp [complete]; first | omega | (intro _; omega)
    rw [e]
    by_cases hE : l = []
    · subst hE
      simp
      refine wpc_draw (id := 3) [.take 0 [] [] [1, 5, 6, 7], .take 2 [] [] [4, 5, 6, 7], .take 3 [] [] [4, 5, 6, 7], .take 1 [4] [] [5, 6, 7], .only 4, .only 5, .only 6, .only 7] (by kernel_rfl) ?_
      simp
      refine wpc_draw (id := 4) [.take 1 [] [] [2, 4], .take 0 [] [] [3, 4], .take 2 [] [4] [4], .only 3, .only 4] (by kernel_rfl) ?_
      simp
      exact endA_le (by simp)
    · have hl2 : l.length * 8 ≤ 140737488355328 := by omega
      simp
      refine wpc_draw (id := 3) [.take 0 [] [] [1, 5, 6, 7], .take 2 [] [] [4, 5, 6, 7], .take 3 [] [] [4, 5, 6, 7], .take 1 [4] [] [5, 6, 7], .only 4, .only 5, .only 6, .only 7] (by kernel_rfl) ?_
      simp [hl2, hE]
      refine wpc_draw (id := 4) [.take 1 [] [] [2, 4], .take 0 [] [] [3, 4], .take 2 [] [4] [4], .only 3, .only 4] (by kernel_rfl) ?_
      simp
      exact endA_le (by simp)
end Go.Proofs
