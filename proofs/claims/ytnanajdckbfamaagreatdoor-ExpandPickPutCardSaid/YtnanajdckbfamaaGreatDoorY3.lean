/- Expansion, plain laws: the first state and the statements of raw data fit. -/
import Derived.Test.YtnanajdckbfamaaGreatDoorX20
import Derived.Test.YtnanajdckbfamaaGreatDoorX14
set_option linter.unusedVariables false
set_option linter.unusedSimpArgs false
set_option maxRecDepth 100000
namespace Go.Proofs
open Go Go.Abs
theorem first_st {c : Ce} (hc : RightC c) : StOk (first c) c := by
  have hp := (of_decide_eq_true hc.parts : partsP _ _)
  have hu : unlikeP (c.parts.map Pt.place) c.places.length := of_decide_eq_true hp.2.2.2
  refine ⟨by simp [first], fun _ => rfl, hc.fit0, hc.fit1, ?_, ?_, ?_, ?_, fun i hi => ?_, fun i hi k hk e => ?_⟩
  · show -1 ≤ (-1 : Int) ∧ (-1 : Int) < _; omega
  · show -1 ≤ (-1 : Int) ∧ (-1 : Int) < _; omega
  · intro h; simp [first] at h
  · intro h; simp [first] at h
  · have := hu i hi; exact ⟨by have := this.1.1; show -1 ≤ iat (c.parts.map Pt.place) i; omega, this.1.2⟩
  · exact absurd e ((hu i hi).2 k hk)
theorem first_pre {c : Ce} (hc : RightC c) : preS (first c) c := ⟨first_st hc, hc⟩
theorem firstIx_hit {α : Type} {p : α → Bool} {l : List α} {i k : Nat} {a : α} (h : l[i]? = some a) (hp : p a = true) : 0 ≤ firstIx p l k := by
  rcases firstIx_spec (p := p) (l := l) (k := k) with e | ⟨j, b, h1, h2, h3⟩
  · exfalso
    induction l generalizing i k with
    | nil => simp at h
    | cons x l ih =>
      unfold firstIx at e
      split at e
      · omega
      · rename_i hx
        cases i with
        | zero => simp at h; subst h; exact hx hp
        | succ i => exact ih (by simpa using h) e
  · omega
theorem partIx_hit {c : Ce} {i : Nat} (h : i < c.parts.length) : 0 ≤ partIx c (ptat c.parts i).name := firstIx_hit (ptat_get h) (by simp)
theorem placeIx_hit {c : Ce} {i : Nat} (h : i < c.places.length) : 0 ≤ placeIx c (plat c.places i).name := firstIx_hit (plat_get h) (by simp)
/-- A statement of raw data fits. -/
theorem stmtOf_fits {c : Ce} (hc : RightC c) (x : Wd) (k : Int) : fits c.a0 (stmtOf c x k).to0 = true ∧ fits c.a1 (stmtOf c x k).to1 = true ∨ c.parts.length = 0 ∨ c.places.length = 0 := by
  by_cases h : c.parts.length = 0 ∨ c.places.length = 0
  · exact .inr h
  · left
    have r0 := (right_spec hc.arm0).rg
    have r1 := (right_spec hc.arm1).rg
    unfold stmtOf
    rw [if_neg h]
    have f := fun {lo hi : Int} {q : Nat} (h2 : lo ≤ hi) => limq_fit (q := q) h2
    constructor
    · have a := f (q := x.a0) r0.1; have b := f (q := x.a1) r0.2.1; have d := f (q := x.a2) r0.2.2
      simp [fits]; omega
    · have a := f (q := x.b0) r1.1; have b := f (q := x.b1) r1.2.1; have d := f (q := x.b2) r1.2.2
      simp [fits]; omega
theorem stmtOf_kind (c : Ce) (x : Wd) (k : Int) : 1 ≤ (stmtOf c x k).kind ∧ (stmtOf c x k).kind ≤ 8 := by
  unfold stmtOf; split
  · simp
  · simp only; omega
theorem stmtOf_arm (c : Ce) (x : Wd) (k : Int) : (stmtOf c x k).arm = 0 ∨ (stmtOf c x k).arm = 1 := by
  unfold stmtOf; split <;> simp only <;> omega
theorem stmtOf_n (c : Ce) (x : Wd) (k : Int) : 0 ≤ (stmtOf c x k).n ∧ (stmtOf c x k).n ≤ 2000 := by
  unfold stmtOf; split <;> simp only <;> omega
theorem stmtOf_full {c : Ce} {x : Wd} {k : Int} (h : ¬ (stmtOf c x k).kind = 6) : ¬ (c.parts.length = 0 ∨ c.places.length = 0) := fun e => h (by unfold stmtOf; rw [if_pos e])
theorem stmtOf_part {c : Ce} {x : Wd} {k : Int} (h : ¬ (stmtOf c x k).kind = 6) : 0 ≤ partIx c (stmtOf c x k).part ∧ 0 ≤ placeIx c (stmtOf c x k).place := by
  have hf := stmtOf_full h
  unfold stmtOf
  rw [if_neg hf]
  exact ⟨partIx_hit (Nat.mod_lt _ (by omega)), placeIx_hit (Nat.mod_lt _ (by omega))⟩
theorem stmtOf_in {c : Ce} (hc : RightC c) {x : Wd} {k : Int} (h7 : ¬ (stmtOf c x k).kind = 7) : SbIn (stmtOf c x k) c := by
  have hk := stmtOf_kind c x k
  have hf := stmtOf_fits hc x k
  have ha := stmtOf_arm c x k
  refine ⟨⟨by omega, ha, fun e => (stmtOf_part (by omega)).1, fun e => (stmtOf_part (by omega)).2⟩, fun e => ?_, fun e => ?_, stmtOf_n c x k⟩
  · have hf := hf.resolve_right (stmtOf_full (x := x) (k := k) (by omega))
    rcases ha with ha | ha <;> rw [ha]
    · exact hf.1
    · exact hf.2
  · exact hf.resolve_right (stmtOf_full (x := x) (k := k) (by omega))
theorem kidsN_in {c : Ce} (hc : RightC c) (l : List Wd) (i : Nat) : ∀ n, ∀ y ∈ kidsN c l i n, SbIn y c
  | 0, y, h => by simp [kidsN] at h
  | n + 1, y, h => by
    unfold kidsN at h
    rcases List.mem_append.1 h with h | h
    · exact kidsN_in hc l i n y h
    · split at h
      · simp at h
      · rename_i h7
        simp at h; subst h; exact stmtOf_in hc h7
theorem smOf_in {c : Ce} (hc : RightC c) (l : List Wd) (i : Nat) : SmIn (smOf c l i) c := by
  refine ⟨fun h => stmtOf_in hc h, fun h => (stmtOf_part (by show ¬ (smOf c l i).1.kind = 6; omega)).1, fun k hk => ?_, ?_⟩
  · unfold smOf at hk
    simp only at hk
    split at hk
    · exact kidsN_in hc l i _ k hk
    · simp at hk
  · unfold smOf; simp only
    split
    · have := kidsN_len c l i (min 4 (l.length - 1 - i)); omega
    · simp
theorem smsN_in {c : Ce} (hc : RightC c) (l : List Wd) : ∀ n, ∀ x ∈ smsN c l n, SmIn x c
  | 0, x, h => by simp [smsN] at h
  | n + 1, x, h => by
    rcases List.mem_append.1 h with h | h
    · exact smsN_in hc l n x h
    · simp at h; subst h; exact smOf_in hc l n
theorem smsOf_in {c : Ce} (hc : RightC c) (l : List Wd) : ∀ x ∈ smsOf c l, SmIn x c := smsN_in hc l _
theorem smsOf_len (c : Ce) (l : List Wd) : (smsOf c l).length ≤ 12 := by unfold smsOf; rw [smsN_len]; omega
/-- Playing keeps the state valid, and the steps few. -/
theorem playT_all {c : Ce} : ∀ {xs : List Sm} {w : Ws} {l : List Sp}, StOk w c → l.length ≤ 300 → StOk (playT c xs w l).1.1 c ∧ (playT c xs w l).1.2.length ≤ 300
  | [], w, l, h, hl => ⟨h, hl⟩
  | (x, ks) :: xs, w, l, h, hl => by
    unfold playT
    split
    · split
      · have := playB_st (xs := ks) h hl
        split
        · exact playT_all this.1 this.2
        · exact this
      · exact playT_all h hl
    · cases hp : play1M x w c l with
      | ok y => have := play1M_st h hp; exact playT_all this.1 this.2
      | error k => exact ⟨h, hl⟩
end Go.Proofs
