/- Plain laws on the solutions: a moved arm, a turned target, narrower limits. -/
import Derived.Test.YtajdhkchgidjmaaP3
set_option linter.unusedVariables false
set_option linter.unusedSimpArgs false
set_option maxRecDepth 100000
namespace Go.Proofs
open Go Go.Abs
/-! A moved arm. -/
def Ar.at' (a : Ar) (b : V2) : Ar := { a with base := b }
theorem pC_moved (a : Ar) (mv : V2) (q : J3) : pC (a.at' (a.base.add mv)) q = (pC a q).add mv := by
  unfold pC pB pA Ar.at' V2.add
  exact Prod.ext (by simp only; omega) (by simp only; omega)
theorem all_moved (a : Ar) (mv p : V2) (d : Dr) : all (a.at' (a.base.add mv)) (p.add mv) d = all a p d := by
  have e : ∀ q, reaches (a.at' (a.base.add mv)) q (p.add mv) d = reaches a q p d := by
    intro q
    unfold reaches
    rw [pC_moved]
    congr 1
    exact decide_eq_decide.2 ⟨V2.add_inj, fun h => by rw [h]⟩
  unfold all all1 all2 all3
  simp only [e]
  rfl
/-! A turned target. -/
def turnD (d : Dr) : Dr := ⟨0 - d.y, d.x, d.n⟩
def shift9 (q : Int) : Int := if q + 9 > 18 then q + 9 - 36 else q + 9
def turnP (a : Ar) (p : V2) : V2 := (a.base.1 - (p.2 - a.base.2), a.base.2 + p.1 - a.base.1)
theorem csN_9 : ∀ k : Fin 36, csN ((k.val + 9) % 36) = (-(csN k.val).2, (csN k.val).1) := by decide
theorem cs_shift (k : Int) : cs (shift9 k) = (-(cs k).2, (cs k).1) := by
  have := csN_9 ⟨(k % 36).toNat, by omega⟩
  simp only at this
  unfold cs
  rw [← this]
  congr 1
  unfold shift9
  split <;> omega
theorem turnD_valid (d : Dr) : valid (turnD d) = valid d := by
  have hr : rad (turnD d) = rad d := rfl
  have key : ∀ x y n r : Int, (decide (0 ≤ n ∧ n ≤ 3) && decide (-r ≤ 0 - y ∧ 0 - y ≤ r) && decide (-r ≤ x ∧ x ≤ r) && ((0 - y) * (0 - y) + x * x == r * r)) = (decide (0 ≤ n ∧ n ≤ 3) && decide (-r ≤ x ∧ x ≤ r) && decide (-r ≤ y ∧ y ≤ r) && (x * x + y * y == r * r)) := by
    intro x y n r
    have e : (0 - y) * (0 - y) + x * x = x * x + y * y := by grind
    rw [e, Bool.eq_iff_iff]
    simp only [Bool.and_eq_true, decide_eq_true_eq]
    constructor <;> intro h <;> refine ⟨⟨⟨h.1.1.1, ?_⟩, ?_⟩, h.2⟩ <;> omega
  exact key d.x d.y d.n (rad d)
theorem compose_turn (d : Dr) (k : Int) : compose (turnD d) k = if valid d = false ∨ d.n = 3 then ⟨0, 0, 0⟩ else turnD (compose d k) := by
  unfold compose
  rw [turnD_valid]
  by_cases h : valid d = false ∨ d.n = 3
  · rw [if_pos h, if_pos (by exact h)]
  · rw [if_neg h, if_neg (by exact h), if_neg h]
    simp only [turnD, byv, Dr.mk.injEq]
    refine ⟨by grind, by grind, trivial⟩
theorem dA_shift (q : J3) : dA ⟨shift9 q.a, q.b, q.c⟩ = turnD (dA q) := by
  unfold dA
  simp only [compose1, cs_shift, turnD]
  simp
theorem dB_shift (q : J3) : dB ⟨shift9 q.a, q.b, q.c⟩ = turnD (dB q) := by
  have v := dA_valid q
  show compose (dA ⟨shift9 q.a, q.b, q.c⟩) q.b = _
  rw [dA_shift, compose_turn, if_neg (by rw [v.1]; simp; omega)]
  rfl
theorem dC_shift (q : J3) : dC ⟨shift9 q.a, q.b, q.c⟩ = turnD (dC q) := by
  have v := dB_valid q
  show compose (dB ⟨shift9 q.a, q.b, q.c⟩) q.c = _
  rw [dB_shift, compose_turn, if_neg (by rw [v.1]; simp; omega)]
  rfl
theorem offset_turn (d : Dr) (n : Int) : offset (turnD d) n = (-(offset d n).2, (offset d n).1) := by
  have hr : rad (turnD d) = rad d := rfl
  unfold offset
  rw [hr]
  simp only [turnD]
  exact Prod.ext (by simp only; grind) rfl
theorem pC_shift (a : Ar) (q : J3) : pC a ⟨shift9 q.a, q.b, q.c⟩ = turnP a (pC a q) := by
  unfold pC pB pA turnP V2.add
  rw [dA_shift, dB_shift, dC_shift, offset_turn, offset_turn, offset_turn]
  exact Prod.ext (by simp only; omega) (by simp only; omega)
theorem turnP_inj {a : Ar} {p q : V2} (h : turnP a p = turnP a q) : p = q := by
  simp only [turnP, Prod.mk.injEq] at h
  exact Prod.ext (by omega) (by omega)
theorem turnD_inj {p q : Dr} (h : turnD p = turnD q) : p = q := by
  obtain ⟨x, y, n⟩ := p
  obtain ⟨x', y', n'⟩ := q
  simp only [turnD, Dr.mk.injEq] at h ⊢
  omega
theorem reaches_shift (a : Ar) (q : J3) (p : V2) (d : Dr) : reaches a ⟨shift9 q.a, q.b, q.c⟩ (turnP a p) (turnD d) = reaches a q p d := by
  unfold reaches
  rw [pC_shift, dC_shift]
  congr 1
  · exact decide_eq_decide.2 ⟨turnP_inj, fun h => by rw [h]⟩
  · exact decide_eq_decide.2 ⟨turnD_inj, fun h => by rw [h]⟩
theorem all_shift_mem {a : Ar} (hl : a.low.a = -17) (hh : a.high.a = 18) {p : V2} {d : Dr} {q : J3} (hq : q ∈ all a p d) : ⟨shift9 q.a, q.b, q.c⟩ ∈ all a (turnP a p) (turnD d) := by
  obtain ⟨h1, h2⟩ := all_mem.1 hq
  refine all_mem.2 ⟨?_, by rw [reaches_shift]; exact h2⟩
  simp only [fits, Bool.and_eq_true, decide_eq_true_eq] at h1 ⊢
  refine ⟨⟨?_, h1.1.2⟩, h1.2⟩
  unfold shift9
  split <;> omega
theorem all2_shift (a : Ar) (p : V2) (d : Dr) (i : Int) : (all2 a (turnP a p) (turnD d) (shift9 i) (cnt a.low.b a.high.b)).length = (all2 a p d i (cnt a.low.b a.high.b)).length := by
  have e : all2 a (turnP a p) (turnD d) (shift9 i) (cnt a.low.b a.high.b) = (all2 a p d i (cnt a.low.b a.high.b)).map fun q => ⟨shift9 i, q.b, q.c⟩ := by
    unfold all2
    rw [List.map_flatMap]
    refine flatMap_congr' fun j _ => ?_
    unfold all3
    rw [List.filter_map, List.filter_map, List.map_map]
    have : ((fun q => reaches a q (turnP a p) (turnD d)) ∘ fun k => J3.mk (shift9 i) j k) = ((fun q => reaches a q p d) ∘ fun k => J3.mk i j k) := by
      funext k
      exact reaches_shift a ⟨i, j, k⟩ p d
    rw [this]
    rfl
  rw [e, List.length_map]
theorem upto36 : upto (-17) 36 = [-17, -16, -15, -14, -13, -12, -11, -10, -9, -8, -7, -6, -5, -4, -3, -2, -1, 0, 1, 2, 3, 4, 5, 6, 7, 8, 9, 10, 11, 12, 13, 14, 15, 16, 17, 18] := by decide
theorem sh_0 : shift9 (-17) = -8 := by decide
theorem sh_1 : shift9 (-16) = -7 := by decide
theorem sh_2 : shift9 (-15) = -6 := by decide
theorem sh_3 : shift9 (-14) = -5 := by decide
theorem sh_4 : shift9 (-13) = -4 := by decide
theorem sh_5 : shift9 (-12) = -3 := by decide
theorem sh_6 : shift9 (-11) = -2 := by decide
theorem sh_7 : shift9 (-10) = -1 := by decide
theorem sh_8 : shift9 (-9) = 0 := by decide
theorem sh_9 : shift9 (-8) = 1 := by decide
theorem sh_10 : shift9 (-7) = 2 := by decide
theorem sh_11 : shift9 (-6) = 3 := by decide
theorem sh_12 : shift9 (-5) = 4 := by decide
theorem sh_13 : shift9 (-4) = 5 := by decide
theorem sh_14 : shift9 (-3) = 6 := by decide
theorem sh_15 : shift9 (-2) = 7 := by decide
theorem sh_16 : shift9 (-1) = 8 := by decide
theorem sh_17 : shift9 0 = 9 := by decide
theorem sh_18 : shift9 1 = 10 := by decide
theorem sh_19 : shift9 2 = 11 := by decide
theorem sh_20 : shift9 3 = 12 := by decide
theorem sh_21 : shift9 4 = 13 := by decide
theorem sh_22 : shift9 5 = 14 := by decide
theorem sh_23 : shift9 6 = 15 := by decide
theorem sh_24 : shift9 7 = 16 := by decide
theorem sh_25 : shift9 8 = 17 := by decide
theorem sh_26 : shift9 9 = 18 := by decide
theorem sh_27 : shift9 10 = -17 := by decide
theorem sh_28 : shift9 11 = -16 := by decide
theorem sh_29 : shift9 12 = -15 := by decide
theorem sh_30 : shift9 13 = -14 := by decide
theorem sh_31 : shift9 14 = -13 := by decide
theorem sh_32 : shift9 15 = -12 := by decide
theorem sh_33 : shift9 16 = -11 := by decide
theorem sh_34 : shift9 17 = -10 := by decide
theorem sh_35 : shift9 18 = -9 := by decide
theorem sum_shift (F : Int → Nat) : ((upto (-17) 36).map F).sum = ((upto (-17) 36).map fun i => F (shift9 i)).sum := by
  rw [upto36]
  simp only [List.map_cons, List.map_nil, List.sum_cons, List.sum_nil, sh_0, sh_1, sh_2, sh_3, sh_4, sh_5, sh_6, sh_7, sh_8, sh_9, sh_10, sh_11, sh_12, sh_13, sh_14, sh_15, sh_16, sh_17, sh_18, sh_19, sh_20, sh_21, sh_22, sh_23, sh_24, sh_25, sh_26, sh_27, sh_28, sh_29, sh_30, sh_31, sh_32, sh_33, sh_34, sh_35]
  omega
theorem all_turned_len {a : Ar} (hl : a.low.a = -17) (hh : a.high.a = 18) (p : V2) (d : Dr) : (all a (turnP a p) (turnD d)).length = (all a p d).length := by
  have e : cnt a.low.a a.high.a = 36 := by rw [hl, hh]; rfl
  unfold all all1
  rw [e, List.length_flatMap, List.length_flatMap, hl, sum_shift]
  congr 1
  refine List.map_congr_left fun i _ => ?_
  exact all2_shift a p d i
/-! Narrower limits. -/
theorem upto_filter {lo hi lo' hi' : Int} (h1 : lo ≤ lo') (h2 : hi' ≤ hi) : (upto lo (cnt lo hi)).filter (fun x => decide (lo' ≤ x ∧ x ≤ hi')) = upto lo' (cnt lo' hi') := by
  have key : ∀ {l k : List Int}, l.Pairwise (· < ·) → k.Pairwise (· < ·) → (∀ x, x ∈ l ↔ x ∈ k) → l = k := by
    intro l
    induction l with
    | nil =>
      intro k _ _ h
      cases k with
      | nil => rfl
      | cons y k => have := (h y).2 (by simp); simp at this
    | cons x l ih =>
      intro k hl hk h
      cases k with
      | nil => have := (h x).1 (by simp); simp at this
      | cons y k =>
        obtain ⟨a1, a2⟩ := List.pairwise_cons.1 hl
        obtain ⟨b1, b2⟩ := List.pairwise_cons.1 hk
        have exy : x = y := by
          rcases List.mem_cons.1 ((h x).1 (by simp)) with e | e
          · exact e
          · rcases List.mem_cons.1 ((h y).2 (by simp)) with e' | e'
            · exact e'.symm
            · have := b1 x e; have := a1 y e'; omega
        subst exy
        congr 1
        refine ih a2 b2 fun z => ⟨fun hz => ?_, fun hz => ?_⟩
        · rcases List.mem_cons.1 ((h z).1 (by simp [hz])) with e | e
          · have := a1 z hz; omega
          · exact e
        · rcases List.mem_cons.1 ((h z).2 (by simp [hz])) with e | e
          · have := b1 z hz; omega
          · exact e
  refine key ((upto_sorted _ _).filter _) (upto_sorted _ _) fun x => ?_
  rw [List.mem_filter, cnt_mem, cnt_mem, decide_eq_true_eq]
  omega
theorem flatMap_filter' {α β : Type} (p : α → Bool) (f : α → List β) (l : List α) : (l.filter p).flatMap f = l.flatMap fun x => if p x = true then f x else [] := by
  induction l with
  | nil => rfl
  | cons x l ih =>
    rw [List.filter_cons, List.flatMap_cons]
    by_cases h : p x = true
    · rw [if_pos h, if_pos h, List.flatMap_cons, ih]
    · rw [if_neg h, if_neg h, ih, List.nil_append]
def Ar.lim (a : Ar) (low high : J3) : Ar := { a with low := low, high := high }
theorem all_narrow (a : Ar) (low high : J3) (h : (a.low.a ≤ low.a ∧ high.a ≤ a.high.a) ∧ (a.low.b ≤ low.b ∧ high.b ≤ a.high.b) ∧ a.low.c ≤ low.c ∧ high.c ≤ a.high.c) (p : V2) (d : Dr) :
    all (a.lim low high) p d = (all a p d).filter fun q => fits (a.lim low high) q := by
  have er : ∀ q, reaches (a.lim low high) q p d = reaches a q p d := fun q => rfl
  unfold all all1 all2 all3
  simp only [er]
  simp only [Ar.lim]
  rw [← upto_filter h.1.1 h.1.2, ← upto_filter h.2.1.1 h.2.1.2, ← upto_filter h.2.2.1 h.2.2.2, flatMap_filter']
  rw [List.filter_flatMap]
  refine flatMap_congr' fun i _ => ?_
  rw [flatMap_filter', List.filter_flatMap]
  by_cases hi : low.a ≤ i ∧ i ≤ high.a
  · rw [if_pos (decide_eq_true hi)]
    refine flatMap_congr' fun j _ => ?_
    by_cases hj : low.b ≤ j ∧ j ≤ high.b
    · rw [if_pos (decide_eq_true hj)]
      rw [List.filter_map, List.filter_map, List.filter_map, List.filter_filter, List.filter_filter]
      congr 1
      refine List.filter_congr fun k _ => ?_
      simp only [Function.comp, fits, hi, hj]
      simp [Bool.and_comm]
    · rw [if_neg (by simpa using hj)]
      refine (List.filter_eq_nil_iff.2 fun q hq => ?_).symm
      simp only [List.mem_filter, List.mem_map] at hq
      obtain ⟨⟨k, _, rfl⟩, _⟩ := hq
      simp only [fits, Bool.and_eq_true, decide_eq_true_eq]
      intro hc
      exact hj hc.1.2
  · rw [if_neg (by simpa using hi)]
    refine (List.flatMap_eq_nil_iff.2 fun j _ => ?_).symm
    refine List.filter_eq_nil_iff.2 fun q hq => ?_
    simp only [List.mem_filter, List.mem_map] at hq
    obtain ⟨⟨k, _, rfl⟩, _⟩ := hq
    simp only [fits, Bool.and_eq_true, decide_eq_true_eq]
    intro hc
    exact hi hc.1.1
/-! The nearest. -/
theorem dist_tri (q r s : J3) : dist q r ≤ dist q s + dist s r := by
  unfold dist mx; repeat' split
  all_goals omega
theorem dist_comm (q r : J3) : dist q r = dist r q := by
  unfold dist mx; repeat' split
  all_goals omega
theorem dist_nn (q r : J3) : 0 ≤ dist q r := by
  unfold dist mx; repeat' split
  all_goals omega
theorem dist_zero (q r : J3) : dist q r = 0 ↔ q = r := by
  obtain ⟨a, b, c⟩ := q
  obtain ⟨a', b', c'⟩ := r
  simp only [J3.mk.injEq]
  unfold dist mx; simp only
  repeat' split
  all_goals omega
theorem bestI_min (l : List J3) (q : J3) : ∀ i, (∀ j, j < i → dist (l.getD (bestI l q i) j0) q ≤ dist (l.getD j j0) q) ∧ (∀ j, j < bestI l q i → dist (l.getD (bestI l q i) j0) q < dist (l.getD j j0) q)
  | 0 => by
    refine ⟨fun j hj => by omega, fun j hj => ?_⟩
    simp [bestI] at hj
  | i + 1 => by
    have ih := bestI_min l q i
    have hsucc : bestI l q (i + 1) = if dist (l.getD i j0) q < dist (l.getD (bestI l q i) j0) q then i else bestI l q i := rfl
    rw [hsucc]
    by_cases h : dist (l.getD i j0) q < dist (l.getD (bestI l q i) j0) q
    · rw [if_pos h]
      refine ⟨fun j hj => ?_, fun j hj => ?_⟩
      · rcases Nat.lt_or_ge j i with h1 | h1
        · have := ih.1 j h1; omega
        · obtain rfl : j = i := by omega
          omega
      · have := ih.1 j hj; omega
    · rw [if_neg h]
      refine ⟨fun j hj => ?_, fun j hj => ih.2 j hj⟩
      rcases Nat.lt_or_ge j i with h1 | h1
      · exact ih.1 j h1
      · obtain rfl : j = i := by omega
        omega
end Go.Proofs
