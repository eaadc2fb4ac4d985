/- Plain law: what Solve computes is the brute force's answer. -/
import Derived.Test.YtajdhkchgidjmaaW15
set_option linter.unusedVariables false
set_option linter.unusedSimpArgs false
set_option maxRecDepth 100000
namespace Go.Proofs
open Go Go.Abs
theorem upto_mem {lo x : Int} {n : Nat} : x ∈ upto lo n ↔ lo ≤ x ∧ x < lo + n := by
  unfold upto
  simp only [List.mem_map, List.mem_range]
  constructor
  · rintro ⟨t, ht, rfl⟩; omega
  · rintro ⟨h1, h2⟩; exact ⟨(x - lo).toNat, by omega, by omega⟩
theorem cnt_mem {lo hi x : Int} : x ∈ upto lo (cnt lo hi) ↔ lo ≤ x ∧ x ≤ hi := by
  rw [upto_mem]; unfold cnt; omega
theorem flatMap_congr' {α β : Type} {f g : α → List β} : ∀ {l : List α}, (∀ x ∈ l, f x = g x) → l.flatMap f = l.flatMap g
  | [], _ => rfl
  | x :: l, h => by
    rw [List.flatMap_cons, List.flatMap_cons, h x (by simp), flatMap_congr' fun y hy => h y (by simp [hy])]
theorem V2.sub_eq {p q r : V2} : p = q.sub r ↔ p.add r = q := by
  obtain ⟨p1, p2⟩ := p; obtain ⟨q1, q2⟩ := q; obtain ⟨r1, r2⟩ := r
  simp only [V2.sub, V2.add, Prod.mk.injEq]; omega
theorem pB_eq (a : Ar) (i j k k' : Int) : pB a ⟨i, j, k⟩ = pB a ⟨i, j, k'⟩ := rfl
theorem sol_eq (a : Ar) (at' : V2) (d : Dr) : sol a at' d = all a at' d := by
  unfold sol all sol1 all1
  refine flatMap_congr' fun i hi => ?_
  unfold sol2 all2
  refine flatMap_congr' fun j hj => ?_
  rw [cnt_mem] at hi hj
  unfold sol3 all3
  have key : ∀ k ∈ upto a.low.c (cnt a.low.c a.high.c), reaches a ⟨i, j, k⟩ at' d = (decide (pB a ⟨i, j, 0⟩ = at'.sub (offset d a.lens.c)) && (decide (dC ⟨i, j, k⟩ = d) && fits a ⟨i, j, k⟩)) := by
    intro k hk
    rw [cnt_mem] at hk
    have hf : fits a ⟨i, j, k⟩ = true := by
      unfold fits
      rw [Bool.and_eq_true, Bool.and_eq_true]
      exact ⟨⟨decide_eq_true hi, decide_eq_true hj⟩, decide_eq_true hk⟩
    rw [hf, Bool.and_true]
    unfold reaches
    by_cases hd : dC ⟨i, j, k⟩ = d
    · rw [show pC a ⟨i, j, k⟩ = (pB a ⟨i, j, 0⟩).add (offset (dC ⟨i, j, k⟩) a.lens.c) from rfl, hd]
      rw [Bool.eq_iff_iff]; simp [V2.sub_eq]
    · simp [hd]
  by_cases hB : pB a ⟨i, j, 0⟩ = at'.sub (offset d a.lens.c)
  · rw [if_pos hB]
    refine List.filter_congr fun q hq => ?_
    obtain ⟨k, hk, rfl⟩ := List.mem_map.1 hq
    rw [key k hk]; simp [hB]
  · rw [if_neg hB]
    refine (List.filter_eq_nil_iff.2 fun q hq => ?_).symm
    obtain ⟨k, hk, rfl⟩ := List.mem_map.1 hq
    rw [key k hk]; simp [hB]
theorem all_mem {a : Ar} {at' : V2} {d : Dr} {q : J3} : q ∈ all a at' d ↔ fits a q = true ∧ reaches a q at' d = true := by
  unfold all all1 all2 all3 fits
  simp only [List.mem_flatMap, List.mem_filter, List.mem_map, cnt_mem, Bool.and_eq_true, decide_eq_true_eq]
  constructor
  · rintro ⟨i, hi, j, hj, ⟨k, hk, rfl⟩, hr⟩
    exact ⟨⟨⟨hi, hj⟩, hk⟩, hr⟩
  · rintro ⟨⟨⟨hi, hj⟩, hk⟩, hr⟩
    exact ⟨q.a, hi, q.b, hj, ⟨q.c, hk, rfl⟩, hr⟩
end Go.Proofs
