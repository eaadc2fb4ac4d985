/- Plain laws of the supervisor's tick. -/
import Derived.Test.YtbnmdfappoeipaaS6
set_option linter.unusedVariables false
set_option linter.unusedSimpArgs false
set_option maxRecDepth 100000
namespace Go.Proofs
open Go Go.Abs
theorem scmd_zero {s : SS} (h : sval s = true) : scmd s = 0 ↔ (s.mode = 1 ∨ s.mode = 2) := by
  have := (sval_iff.1 h).2
  unfold scmd; repeat' split
  all_goals omega
theorem stepS_mode (s : SS) (l : List Vi) (ask : Int) (rest : Bool) : (stepS s l ask rest).mode = (runS s l ask rest).mode ∧ (stepS s l ask rest).cat = (runS s l ask rest).cat ∧ (stepS s l ask rest).left = (runS s l ask rest).left := by
  unfold stepS finS; split <;> exact ⟨rfl, rfl, rfl⟩
theorem dem_le (l : List Vi) (ask : Int) : dem l ask ≤ vmin l ∧ (ask = 2 → dem l ask ≤ 2) ∧ (ask = 3 → dem l ask ≤ 1) ∧ (¬ ask = 2 → ¬ ask = 3 → dem l ask = vmin l) ∧ (ask = 4 → dem l ask = vmin l) ∧ (ask = 1 → dem l ask = vmin l) := by
  unfold dem mn; repeat' split
  all_goals omega
theorem vmin_bd (l : List Vi) : 0 ≤ vmin l ∧ vmin l ≤ 3 := worst_bd l l.length
/-- What a tick does, in one sentence for each mode. -/
theorem run_sum {s : SS} (h : sval s = true) (l : List Vi) (ask : Int) (rest : Bool) : ∃ c, c = dem l ask ∧
    ((s.mode = 1 ∨ s.mode = 2) → c = 3 → ((runS s l ask rest).mode = if s.mode = 1 ∧ ask = 1 then 2 else s.mode) ∧ (runS s l ask rest).cat = s.cat) ∧
    ((s.mode = 1 ∨ s.mode = 2) → ¬ c = 3 → (runS s l ask rest).cat = c ∧ ((runS s l ask rest).mode = 3 ∨ ((runS s l ask rest).mode = 5 ∧ c = 2) ∨ ((runS s l ask rest).mode = 4 ∧ ¬ c = 2))) ∧
    (s.mode = 3 → rest = true → (runS s l ask rest).cat = (if c < s.cat then c else s.cat) ∧ ((runS s l ask rest).mode = 4 ∨ (runS s l ask rest).mode = 5)) ∧
    (s.mode = 3 → rest = false → (runS s l ask rest).mode = 3 ∧ (runS s l ask rest).left = (if 1 < s.left then s.left - 1 else 0) ∧ (runS s l ask rest).cat = if (runS s l ask rest).left = 0 then 0 else (if c < s.cat then c else s.cat)) ∧
    ((s.mode = 4 ∨ s.mode = 5) → (s.mode = 5 ∧ c < 2 ∧ (runS s l ask rest).mode = 4 ∧ (runS s l ask rest).cat = c) ∨ (¬ (s.mode = 5 ∧ c < 2) ∧ ask = 4 ∧ rest = true ∧ c = 3 ∧ (runS s l ask rest).mode = 1 ∧ (runS s l ask rest).cat = 0) ∨ (¬ (s.mode = 5 ∧ c < 2) ∧ ¬ (ask = 4 ∧ rest = true ∧ c = 3) ∧ (runS s l ask rest).mode = s.mode ∧ (runS s l ask rest).cat = s.cat)) := by
  refine ⟨dem l ask, rfl, ?_, ?_, ?_, ?_, ?_⟩
  · intro hm hc
    unfold runS
    rw [if_pos hm]
    unfold goingS tickS
    rw [if_pos hc]
    simp only
    split <;> simp
  · intro hm hc
    unfold runS
    rw [if_pos hm]
    unfold goingS tickS halt
    rw [if_neg hc]
    simp only
    split
    · refine ⟨rfl, ?_⟩
      simp only
      split
      · exact .inr (.inl ⟨rfl, by assumption⟩)
      · exact .inr (.inr ⟨rfl, by assumption⟩)
    · exact ⟨rfl, .inl rfl⟩
  · intro hm hr
    unfold runS
    rw [if_neg (by omega), if_pos hm]
    unfold stoppingS tickS halt
    simp only [hr, if_true]
    refine ⟨trivial, ?_⟩
    repeat' split
    all_goals omega
  · intro hm hr
    unfold runS
    rw [if_neg (by omega), if_pos hm]
    unfold stoppingS tickS halt
    simp only [hr]
    simp [hm]
  · intro hm
    unfold runS
    rw [if_neg (by omega), if_neg (by omega)]
    unfold stillS tickS
    simp only
    by_cases h1 : s.mode = 5 ∧ dem l ask < 2
    · rw [if_pos h1]; exact .inl ⟨h1.1, h1.2, rfl, rfl⟩
    · rw [if_neg h1]
      by_cases h2 : ask = 4 ∧ rest = true ∧ dem l ask = 3
      · rw [if_pos h2]; exact .inr (.inl ⟨h1, h2.1, h2.2.1, h2.2.2, rfl, rfl⟩)
      · rw [if_neg h2]; exact .inr (.inr ⟨h1, h2, rfl, rfl⟩)
/-- .. as cases. -/
theorem run_cases {s : SS} (h : sval s = true) (l : List Vi) (ask : Int) (rest : Bool) :
    ((s.mode = 1 ∨ s.mode = 2) ∧ dem l ask = 3 ∧ ((runS s l ask rest).mode = if s.mode = 1 ∧ ask = 1 then 2 else s.mode) ∧ (runS s l ask rest).cat = s.cat) ∨
    ((s.mode = 1 ∨ s.mode = 2) ∧ ¬ dem l ask = 3 ∧ (runS s l ask rest).cat = dem l ask ∧ ((runS s l ask rest).mode = 3 ∨ ((runS s l ask rest).mode = 5 ∧ dem l ask = 2) ∨ ((runS s l ask rest).mode = 4 ∧ ¬ dem l ask = 2))) ∨
    (s.mode = 3 ∧ rest = true ∧ (runS s l ask rest).cat = (if dem l ask < s.cat then dem l ask else s.cat) ∧ ((runS s l ask rest).mode = 4 ∨ (runS s l ask rest).mode = 5)) ∨
    (s.mode = 3 ∧ rest = false ∧ (runS s l ask rest).mode = 3 ∧ ((runS s l ask rest).cat = 0 ∨ (runS s l ask rest).cat = (if dem l ask < s.cat then dem l ask else s.cat))) ∨
    (s.mode = 5 ∧ dem l ask < 2 ∧ (runS s l ask rest).mode = 4 ∧ (runS s l ask rest).cat = dem l ask) ∨
    ((s.mode = 4 ∨ s.mode = 5) ∧ ask = 4 ∧ rest = true ∧ dem l ask = 3 ∧ (runS s l ask rest).mode = 1 ∧ (runS s l ask rest).cat = 0) ∨
    ((s.mode = 4 ∨ (s.mode = 5 ∧ ¬ dem l ask < 2)) ∧ (runS s l ask rest).mode = s.mode ∧ (runS s l ask rest).cat = s.cat) := by
  obtain ⟨c, rfl, h1, h2, h3, h4, h5⟩ := run_sum h l ask rest
  rcases (sval_iff.1 h).2 with ⟨hm, _⟩ | ⟨hm, _⟩ | ⟨hm, _⟩ | ⟨hm, _⟩
  · by_cases hc : dem l ask = 3
    · exact .inl ⟨hm, hc, h1 hm hc⟩
    · exact .inr (.inl ⟨hm, hc, h2 hm hc⟩)
  · rcases Bool.eq_false_or_eq_true rest with hr | hr
    · exact .inr (.inr (.inl ⟨hm, hr, h3 hm hr⟩))
    · obtain ⟨k1, k2, k3⟩ := h4 hm hr
      refine .inr (.inr (.inr (.inl ⟨hm, hr, k1, ?_⟩)))
      rw [k3]; split
      · exact .inl rfl
      · exact .inr rfl
  · rcases h5 (.inl hm) with k | k | k
    · exact .inr (.inr (.inr (.inr (.inl k))))
    · exact .inr (.inr (.inr (.inr (.inr (.inl ⟨.inl hm, k.2⟩)))))
    · exact .inr (.inr (.inr (.inr (.inr (.inr ⟨.inl hm, k.2.2⟩)))))
  · rcases h5 (.inr hm) with k | k | k
    · exact .inr (.inr (.inr (.inr (.inl k))))
    · exact .inr (.inr (.inr (.inr (.inr (.inl ⟨.inr hm, k.2⟩)))))
    · exact .inr (.inr (.inr (.inr (.inr (.inr ⟨.inr ⟨hm, by have := k.1; omega⟩, k.2.2⟩)))))
/-- After a violation. -/
theorem stop_cmd {s : SS} (h : sval s = true) {l : List Vi} (hv : ¬ vmin l = 3) (ask : Int) (rest : Bool) : ¬ scmd (stepS s l ask rest) = 0 := by
  rw [scmd_zero (stepS_valid l ask rest h), (stepS_mode s l ask rest).1]
  have hd := (dem_le l ask).1
  have hb := vmin_bd l
  rcases run_cases h l ask rest with k | k | k | k | k | k | k <;> omega
theorem stay_cmd {s : SS} (h : sval s = true) (hs : ¬ scmd s = 0) (l : List Vi) (ask : Int) (rest : Bool) (hx : scmd (stepS s l ask rest) = 0) : ask = 4 ∧ rest = true ∧ vmin l = 3 ∧ stepE s l ask rest = 0 ∧ (stepS s l ask rest).mode = 1 := by
  rw [scmd_zero (stepS_valid l ask rest h)] at hx
  rw [scmd_zero h] at hs
  unfold stepE errS
  rw [(stepS_mode s l ask rest).1] at hx ⊢
  have hd := (dem_le l ask).1
  have hb := vmin_bd l
  rcases run_cases h l ask rest with k | k | k | k | k | k | k
  · omega
  · omega
  · omega
  · omega
  · omega
  · obtain ⟨_, k1, k2, k3, k4, _⟩ := k
    exact ⟨k1, k2, by omega, by rw [if_neg (by omega), if_neg (by omega)], k4⟩
  · omega
theorem cat_law {s : SS} (h : sval s = true) (l : List Vi) (ask : Int) (rest : Bool) :
    (((s.mode = 1 ∨ s.mode = 2) ∨ (stepS s l ask rest).mode = 1) → vmin l = 3 ∨ ((stepS s l ask rest).cat ≤ vmin l ∧ ¬ (stepS s l ask rest).mode = 1 ∧ ¬ (stepS s l ask rest).mode = 2)) ∧
    (¬ ((s.mode = 1 ∨ s.mode = 2) ∨ (stepS s l ask rest).mode = 1) → (stepS s l ask rest).cat ≤ s.cat ∧ (s.mode = 4 ∨ (stepS s l ask rest).cat ≤ vmin l)) := by
  obtain ⟨m1, m2, m3⟩ := stepS_mode s l ask rest
  rw [m1, m2]
  have hm := (sval_iff.1 h).2
  have hd := (dem_le l ask).1
  have hb := vmin_bd l
  have hdb := dem_bd l ask
  rcases run_cases h l ask rest with k | k | k | k | k | k | k
  · constructor <;> intro hx <;> omega
  · constructor <;> intro hx <;> omega
  · obtain ⟨k0, k1, k2, k3⟩ := k
    constructor <;> intro hx <;> omega
  · obtain ⟨k0, k1, k2, k3⟩ := k
    constructor <;> intro hx <;> omega
  · constructor <;> intro hx <;> omega
  · obtain ⟨k0, k1, k2, k3, k4, k5⟩ := k
    constructor <;> intro hx <;> omega
  · constructor <;> intro hx <;> omega
theorem stop_law {s : SS} (h : sval s = true) (h3 : s.mode = 3) (l : List Vi) (ask : Int) (rest : Bool) :
    (rest = true → (stepS s l ask rest).mode = 4 ∨ (stepS s l ask rest).mode = 5) ∧
    (rest = false → (stepS s l ask rest).mode = 3 ∧ (stepS s l ask rest).left = (if 1 < s.left then s.left - 1 else 0) ∧ ((stepS s l ask rest).left = 0 → (stepS s l ask rest).cat = 0)) := by
  obtain ⟨m1, m2, m3⟩ := stepS_mode s l ask rest
  rw [m1, m2, m3]
  obtain ⟨c, hc, g1, g2, g3, g4, g5⟩ := run_sum h l ask rest
  refine ⟨fun hr => (g3 h3 hr).2, fun hr => ?_⟩
  obtain ⟨k1, k2, k3⟩ := g4 h3 hr
  exact ⟨k1, k2, fun e => by rw [k3, if_pos e]⟩
theorem start_law {s : SS} (h : sval s = true) (l : List Vi) (ask : Int) (rest : Bool) :
    ((stepS s l ask rest).mode = 2 → ¬ s.mode = 2 → s.mode = 1 ∧ ask = 1 ∧ vmin l = 3 ∧ stepE s l ask rest = 0) ∧
    ((ask = 2 ∨ ask = 3) → ¬ scmd (stepS s l ask rest) = 0 ∧ stepE s l ask rest = 0) ∧
    (stepE s l ask rest = 1 → ask < 0 ∨ 5 < ask) := by
  rw [scmd_zero (stepS_valid l ask rest h)]
  unfold stepE errS
  rw [(stepS_mode s l ask rest).1]
  have hd := dem_le l ask
  have hb := vmin_bd l
  have hrun := run_cases h l ask rest
  refine ⟨fun a b => ?_, fun a => ?_, fun a => ?_⟩
  · have k : s.mode = 1 ∧ ask = 1 ∧ vmin l = 3 := by
      have hd1 := hd.1
      rcases hrun with k | k | k | k | k | k | k
      · obtain ⟨k0, k1, k2, k3⟩ := k
        rw [a] at k2
        split at k2
        · rename_i e; exact ⟨e.1, e.2, by omega⟩
        · omega
      · omega
      · omega
      · omega
      · omega
      · omega
      · omega
    exact ⟨k.1, k.2.1, k.2.2, by rw [if_neg (by omega), if_neg (by omega)]⟩
  · refine ⟨?_, ?_⟩
    · have hd1 := hd.2.1
      have hd2 := hd.2.2.1
      rcases hrun with k | k | k | k | k | k | k <;> omega
    · rw [if_neg (by omega), if_neg (by omega)]
  · repeat' split at a
    all_goals omega
theorem age_law {s : SS} (hb : s.t0 < 1073741823 ∧ s.t1 < 1073741823) (l : List Vi) (ask : Int) (rest : Bool) :
    ((stepS s l ask rest).mode = 4 ∧ rest = true → (stepS s l ask rest).t0 = 0 ∧ (stepS s l ask rest).t1 = 0) ∧
    (¬ ((stepS s l ask rest).mode = 4 ∧ rest = true) → (stepS s l ask rest).t0 = s.t0 + 1 ∧ (stepS s l ask rest).t1 = s.t1 + 1) := by
  rw [(stepS_mode s l ask rest).1]
  have k0 : tk s.t0 = s.t0 + 1 := by unfold tk; rw [if_pos (by omega)]
  have k1 : tk s.t1 = s.t1 + 1 := by unfold tk; rw [if_pos (by omega)]
  have hrun : (runS s l ask rest).t0 = s.t0 + 1 ∧ (runS s l ask rest).t1 = s.t1 + 1 := by
    rw [← k0, ← k1]
    unfold runS goingS stoppingS stillS halt tickS
    simp only
    repeat' split
    all_goals exact ⟨rfl, rfl⟩
  unfold stepS finS
  refine ⟨fun hx => ?_, fun hx => ?_⟩
  · rw [if_pos hx]; exact ⟨rfl, rfl⟩
  · rw [if_neg hx]; exact hrun
theorem after_age (l : List Tk) : ∀ n, n ≤ l.length → n ≤ 300 → (after s0 l n).t0 ≤ n ∧ (after s0 l n).t1 ≤ n
  | 0, _, _ => ⟨Int.le_refl _, Int.le_refl _⟩
  | n + 1, h, h3 => by
    have ih := after_age l n (by omega) (by omega)
    rw [after_succ (by omega)]
    have := age_law (s := after s0 l n) ⟨by omega, by omega⟩ (l.getD n tk0).l (l.getD n tk0).ask (l.getD n tk0).rest
    by_cases hx : (stepS (after s0 l n) (l.getD n tk0).l (l.getD n tk0).ask (l.getD n tk0).rest).mode = 4 ∧ (l.getD n tk0).rest = true
    · have := this.1 hx; omega
    · have := this.2 hx; omega
end Go.Proofs
