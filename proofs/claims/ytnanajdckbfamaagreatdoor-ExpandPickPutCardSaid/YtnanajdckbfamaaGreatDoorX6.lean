/- Expansion: states that fit; steps keep them. Methods that append steps: how they end, and how they are used. -/
import Derived.Test.YtnanajdckbfamaaGreatDoorX5
import Derived.Test.YtnanajdckbfamaaGreatDoorX3
set_option linter.unusedVariables false
set_option linter.unusedSimpArgs false
set_option maxRecDepth 100000
namespace Go.Proofs
open Go Go.Abs
attribute [local irreducible] wpc aSeq awAny endA guardK condK CallK callT aPlan onlyL takeL aeffK takeE loopG bodyA thenA inBlockA planK roundG assignG bodyI endI YieldK unrollG endP
/-- A state that is valid for a cell. -/
structure StOk (w : Ws) (c : Ce) : Prop where
  len : w.wher.length = c.parts.length
  diff : w.l0 = w.l1 → w.l0 = -1
  fit0 : fits c.a0 w.q0 = true
  fit1 : fits c.a1 w.q1 = true
  h0 : -1 ≤ w.l0 ∧ w.l0 < c.parts.length
  h1 : -1 ≤ w.l1 ∧ w.l1 < c.parts.length
  w0 : 0 ≤ w.l0 → iat w.wher w.l0.toNat = -1
  w1 : 0 ≤ w.l1 → iat w.wher w.l1.toNat = -1
  vals : ∀ i < w.wher.length, -1 ≤ iat w.wher i ∧ iat w.wher i < c.places.length
  uniq : ∀ i < w.wher.length, ∀ k < i, iat w.wher k = iat w.wher i → iat w.wher i = -1
/-- What a valid cell tells of sizes. -/
theorem RightC.wok {w : Ws} {c : Ce} (hc : RightC c) (hw : StOk w c) : WOk w c :=
  ⟨hw.len, by have := (of_decide_eq_true hc.parts : partsP _ _).2.1; omega, right_spec hc.arm0, right_spec hc.arm1⟩
theorem RightC.parts8 {c : Ce} (hc : RightC c) : c.parts.length ≤ 8 := (of_decide_eq_true hc.parts : partsP _ _).2.1
theorem RightC.places16 {c : Ce} (hc : RightC c) : c.places.length ≤ 16 := (of_decide_eq_true hc.places : placesP _).2.1
theorem RightC.place {c : Ce} (hc : RightC c) {i : Nat} (hi : i < c.places.length) : placeOkP (plat c.places i) := (of_decide_eq_true hc.places : placesP _).1 i hi
theorem iat_set (l : List Int) (p : Nat) (x : Int) (i : Nat) (hp : p < l.length) : iat (l.set p x) i = if i = p then x else iat l i := by
  unfold iat
  simp only [List.getD, List.getElem?_set]
  by_cases h : i = p
  · subst h; simp [hp]
  · rw [if_neg (fun e => h e.symm), if_neg h]
theorem mem_iat {l : List Int} {x : Int} : x ∈ l ↔ ∃ i, i < l.length ∧ iat l i = x := by
  constructor
  · intro h
    obtain ⟨i, hi, e⟩ := List.getElem_of_mem h
    exact ⟨i, hi, by simp [iat, hi, e]⟩
  · rintro ⟨i, hi, e⟩
    have : l[i] = x := by simpa [iat, hi] using e
    exact this ▸ List.getElem_mem hi
theorem StOk.lay {w : Ws} {c : Ce} (h : StOk w c) {p : Nat} {x : Int} (hp : p < w.wher.length) (hx : -1 ≤ x ∧ x < c.places.length) (hn : x ≠ -1 → ∀ i, i < w.wher.length → iat w.wher i ≠ x) :
    (∀ i < (w.wher.set p x).length, -1 ≤ iat (w.wher.set p x) i ∧ iat (w.wher.set p x) i < c.places.length) ∧ ∀ i < (w.wher.set p x).length, ∀ k < i, iat (w.wher.set p x) k = iat (w.wher.set p x) i → iat (w.wher.set p x) i = -1 := by
  rw [List.length_set]
  refine ⟨fun i hi => ?_, fun i hi k hk => ?_⟩
  · rw [iat_set _ _ _ _ hp]; split
    · exact hx
    · exact h.vals i hi
  · rw [iat_set _ _ _ _ hp, iat_set _ _ _ _ hp]
    by_cases h1 : k = p
    · rw [if_pos h1, if_neg (by omega)]
      intro e
      by_cases hx1 : x = -1
      · rw [← e, hx1]
      · exact absurd e.symm (hn hx1 i hi)
    · rw [if_neg h1]
      by_cases h2 : i = p
      · rw [if_pos h2]
        intro e
        by_cases hx1 : x = -1
        · exact hx1
        · exact absurd e (hn hx1 k (by omega))
      · rw [if_neg h2]; exact h.uniq i hi k hk
theorem take_ok {s : Sp} {w w' : Ws} {c : Ce} (ha : s.arm = 0 ∨ s.arm = 1) (h : doTake s w c = .ok w') : knownB s c = true ∧ w.held s.arm < 0 ∧ iat w.wher s.part.toNat = s.place ∧ thereB w c s.arm s.place.toNat = true ∧ w' = (w.setHeld s.arm s.part).lay s.part.toNat (-1) := by
  unfold doTake at h
  split at h; cases h
  split at h; cases h
  split at h; cases h
  split at h; cases h
  rename_i h1 h2 h3 h4
  injection h with h
  exact ⟨by simpa using h1, by simpa using h2, by simpa using h3, by simpa using h4, h.symm⟩
theorem leave_ok {s : Sp} {w w' : Ws} {c : Ce} (ha : s.arm = 0 ∨ s.arm = 1) (h : doLeave s w c = .ok w') : knownB s c = true ∧ w.held s.arm = s.part ∧ s.place ∉ w.wher ∧ thereB w c s.arm s.place.toNat = true ∧ w' = (w.setHeld s.arm (-1)).lay s.part.toNat s.place := by
  unfold doLeave at h
  split at h; cases h
  split at h; cases h
  split at h; cases h
  split at h; cases h
  rename_i h1 h2 h3 h4
  injection h with h
  exact ⟨by simpa using h1, by simpa using h2, h3, by simpa using h4, h.symm⟩
/-- A step keeps a state valid. -/
theorem doE_ok {s : Sp} {w w' : Ws} {c : Ce} (hw : StOk w c) (h : doE s w c = .ok w') : StOk w' c := by
  unfold doE at h
  split at h; cases h
  rename_i hk
  have ha : s.arm = 0 ∨ s.arm = 1 := by omega
  split at h
  · unfold doGo at h
    split at h
    · rename_i hf
      injection h with h; subst h
      rcases ha with ha | ha <;> rw [ha] at hf ⊢
      · exact { hw with fit0 := hf }
      · exact { hw with fit1 := hf }
    · cases h
  split at h
  · unfold doBoth at h
    split at h
    · rename_i hf
      injection h with h; subst h
      exact { hw with fit0 := hf.1, fit1 := hf.2 }
    · cases h
  split at h
  · obtain ⟨hkn, hh, hwh, hth, rfl⟩ := take_ok ha h
    have hkn := knownB_iff.1 hkn
    have hp : s.part.toNat < w.wher.length := by rw [hw.len]; omega
    obtain ⟨l1, l2⟩ := hw.lay hp (x := -1) (by omega) (fun h => absurd rfl h)
    have g0 := hw.w0
    have g1 := hw.w1
    have g2 := hw.h0
    have g3 := hw.h1
    have g4 := hw.diff
    have nh : ∀ x : Int, 0 ≤ x → iat w.wher x.toNat = -1 → x ≠ s.part := fun x hx he e => by subst e; omega
    rcases ha with ha | ha <;> rw [ha] at hh ⊢
    · refine ⟨by simpa [Ws.lay] using hw.len, fun e => ?_, hw.fit0, hw.fit1, by simp [Ws.lay]; omega, hw.h1, fun _ => ?_, fun hx => ?_, l1, l2⟩
      · simp [Ws.lay] at e
        by_cases hx : 0 ≤ w.l1
        · exact absurd e.symm (nh _ hx (g1 hx))
        · omega
      · simp only [Ws.lay, Ws.setHeld_0]; rw [iat_set _ _ _ _ hp, if_pos rfl]
      · simp only [Ws.lay, Ws.setHeld_0] at hx ⊢
        rw [iat_set _ _ _ _ hp]; split
        · rfl
        · exact g1 hx
    · refine ⟨by simpa [Ws.lay] using hw.len, fun e => ?_, hw.fit0, hw.fit1, hw.h0, by simp [Ws.lay]; omega, fun hx => ?_, fun _ => ?_, l1, l2⟩
      · simp [Ws.lay] at e ⊢
        by_cases hx : 0 ≤ w.l0
        · exact absurd e (nh _ hx (g0 hx))
        · omega
      · simp only [Ws.lay, Ws.setHeld_1] at hx ⊢
        rw [iat_set _ _ _ _ hp]; split
        · rfl
        · exact g0 hx
      · simp only [Ws.lay, Ws.setHeld_1]; rw [iat_set _ _ _ _ hp, if_pos rfl]
  split at h
  · obtain ⟨hkn, hh, hpl, hth, rfl⟩ := leave_ok ha h
    have hkn := knownB_iff.1 hkn
    have hp : s.part.toNat < w.wher.length := by rw [hw.len]; omega
    obtain ⟨l1, l2⟩ := hw.lay hp (x := s.place) (by omega) (fun _ i hi e => hpl (mem_iat.2 ⟨i, hi, e⟩))
    have g0 := hw.w0
    have g1 := hw.w1
    have g2 := hw.h0
    have g3 := hw.h1
    have g4 := hw.diff
    rcases ha with ha | ha <;> rw [ha] at hh ⊢ <;> simp at hh
    · refine ⟨by simpa [Ws.lay] using hw.len, fun e => rfl, hw.fit0, hw.fit1, by simp [Ws.lay]; omega, hw.h1, fun hx => ?_, fun hx => ?_, l1, l2⟩
      · simp [Ws.lay] at hx
      · simp only [Ws.lay, Ws.setHeld_0] at hx ⊢
        rw [iat_set _ _ _ _ hp, if_neg (by omega)]
        exact g1 hx
    · refine ⟨by simpa [Ws.lay] using hw.len, fun e => ?_, hw.fit0, hw.fit1, hw.h0, by simp [Ws.lay]; omega, fun hx => ?_, fun hx => ?_, l1, l2⟩
      · simpa [Ws.lay] using e
      · simp only [Ws.lay, Ws.setHeld_1] at hx ⊢
        rw [iat_set _ _ _ _ hp, if_neg (by omega)]
        exact g0 hx
      · simp [Ws.lay] at hx
  · unfold doWait at h
    obtain ⟨_, rfl⟩ := ckE_inv h
    exact hw
end Go.Proofs
