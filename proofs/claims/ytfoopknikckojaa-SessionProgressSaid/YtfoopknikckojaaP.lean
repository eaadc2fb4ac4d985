/- Plain laws on sessions: what is valid stays valid. -/
import Derived.Test.YtfoopknikckojaaW4
set_option linter.unusedVariables false
set_option linter.unusedSimpArgs false
set_option maxRecDepth 100000
namespace Go.Proofs
open Go Go.Abs
attribute [local irreducible] wpc aSeq awAny endA guardK condK CallK callT aPlan onlyL takeL aeffK takeE loopG bodyA thenA inBlockA
theorem receive_cases (t : Ses) (m : Msg) : ((receive t m).2.1 = false ∧ (receive t m).1 = t) ∨ ((receive t m) = (⟨m.seq, ⟨0, 0, []⟩⟩, true, ⟨0, 0, []⟩) ∧ rc t m 0 = false ∧ rc t m 1 = false ∧ rc t m 2 = false ∧ rc t m 3 = false) := by
  unfold receive
  cases h0 : rc t m 0 <;> cases h1 : rc t m 1 <;> cases h2 : rc t m 2 <;> cases h3 : rc t m 3 <;> simp
theorem valid_bounds {t : Ses} (h : valid t = true) : 0 ≤ t.last ∧ t.last ≤ 1073741824 ∧ ((t.reply.kind = 0 ∧ t.reply.seq = 0 ∧ t.reply.nums.length = 0) ∨ (t.reply.kind = 9 ∧ 0 < t.last ∧ t.reply.seq = t.last ∧ t.reply.nums.length ≤ 20)) := by
  unfold valid at h
  split at h
  · cases h
  · rename_i h1
    refine ⟨by omega, by omega, ?_⟩
    split at h
    · rename_i h2; simp at h; exact .inl ⟨h2, h.1, by rw [h.2]; rfl⟩
    · split at h
      · rename_i h2; simp at h; exact .inr ⟨h2, by omega, by omega, by omega⟩
      · cases h
theorem valid_of {t : Ses} (h1 : 0 ≤ t.last) (h2 : t.last ≤ 1073741824) (h : (t.reply.kind = 0 ∧ t.reply.seq = 0 ∧ t.reply.nums.length = 0) ∨ (t.reply.kind = 9 ∧ 0 < t.last ∧ t.reply.seq = t.last ∧ t.reply.nums.length ≤ 20)) : valid t = true := by
  unfold valid
  rw [if_neg (by omega)]
  rcases h with ⟨a, b, c⟩ | ⟨a, b, c, d⟩
  · rw [if_pos a]; simp [b, c]
  · rw [if_neg (by omega), if_pos a]; simp; omega
theorem received {t : Ses} {m : Msg} (hv : valid t = true) (h : (receive t m).2.1 = true) : (receive t m) = (⟨m.seq, ⟨0, 0, []⟩⟩, true, ⟨0, 0, []⟩) ∧ m.seq = t.last + 1 ∧ t.last < 1073741824 ∧ ¬ (0 < t.last ∧ t.reply.kind = 0) := by
  obtain ⟨a, b, _⟩ := valid_bounds hv
  rcases receive_cases t m with ⟨h1, _⟩ | ⟨h1, h2, h3, h4, h5⟩
  · rw [h1] at h; cases h
  · have hw : IntKind.wrap .i64 (t.last + 1) = t.last + 1 := wrap64 (by omega) (by omega)
    refine ⟨h1, ?_⟩
    simp [rc, rc5, hw] at h2 h3 h4 h5
    split at h4 <;> omega
theorem valid_receive {t : Ses} {m : Msg} (hv : valid t = true) : valid (receive t m).1 = true := by
  rcases receive_cases t m with ⟨_, h1⟩ | ⟨h1, _⟩
  · rw [h1]; exact hv
  · obtain ⟨a, b, _⟩ := valid_bounds hv
    obtain ⟨_, h2, h3, _⟩ := received (m := m) hv (by rw [h1])
    rw [h1]
    exact valid_of (by simp only; omega) (by simp only; omega) (.inl ⟨rfl, rfl, rfl⟩)
theorem valid_complete {t : Ses} {l : List Int} (hv : valid t = true) (hl : l.length ≤ 20) : valid (complete t l).1 = true := by
  obtain ⟨a, b, _⟩ := valid_bounds hv
  unfold complete
  split
  · rename_i h; simp at h
    exact valid_of a b (.inr ⟨rfl, h.1, rfl, hl⟩)
  · exact hv
theorem great_false {l : List Wd} (h : great l = false) : l.length ≤ 200 ∧ ∀ w ∈ l, w.nums.length ≤ 20 := by
  simp [great] at h; exact ⟨by omega, h.2⟩
theorem valid_fold {l : List Wd} (hl : ∀ w ∈ l, w.nums.length ≤ 20) {t : Ses} (ht : valid t = true) : valid (l.foldl stepB t) = true := by
  induction l generalizing t with
  | nil => exact ht
  | cons w l ih =>
    simp only [List.foldl_cons]
    refine ih (fun w hw => hl w (by simp [hw])) ?_
    unfold stepB
    split
    · exact valid_complete ht (hl w (by simp))
    · exact valid_receive ht
theorem valid_behind {l : List Wd} (hl : great l = false) : valid (behind l) = true := valid_fold (great_false hl).2 (by rfl)
theorem valid_nums {t : Ses} (h : valid t = true) : t.reply.nums.length ≤ 20 := by
  obtain ⟨_, _, h⟩ := valid_bounds h; omega
theorem same_refl (t : Ses) : (t.last == t.last && sameMsg t.reply t.reply) = true := by simp [sameMsg]
end Go.Proofs
