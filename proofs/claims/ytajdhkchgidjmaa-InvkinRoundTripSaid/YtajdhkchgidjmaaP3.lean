/- Plain laws on the solutions: each is told by its first joint; they rise; two circles meet at most twice. -/
import Derived.Test.YtajdhkchgidjmaaP2
set_option linter.unusedVariables false
set_option linter.unusedSimpArgs false
set_option maxRecDepth 100000
namespace Go.Proofs
open Go Go.Abs
theorem csN_inj : ∀ k k' : Fin 36, csN k.val = csN k'.val → k = k' := by decide
theorem cs_inj {k k' : Int} (h : -17 ≤ k ∧ k ≤ 18) (h' : -17 ≤ k' ∧ k' ≤ 18) (e : cs k = cs k') : k = k' := by
  have := csN_inj ⟨(k % 36).toNat, by omega⟩ ⟨(k' % 36).toNat, by omega⟩ e
  have := congrArg Fin.val this
  simp only at this
  omega
theorem rad_pos (d : Dr) : 1 ≤ rad d := (rad_bound d).1
theorem mul_cancel0 {a b : Int} (h : a * b = 0) (hb : 1 ≤ b) : a = 0 := by
  rcases Int.mul_eq_zero.1 h with h | h
  · exact h
  · omega
theorem rad_sq (d : Dr) : 1 ≤ rad d * rad d := by
  have h := rad_pos d
  have := Int.mul_le_mul h h (by omega) (by omega)
  omega
theorem compose_inj {d : Dr} (hv : valid d = true) (hn : d.n < 3) {k k' : Int} (h : -17 ≤ k ∧ k ≤ 18) (h' : -17 ≤ k' ∧ k' ≤ 18) (e : compose d k = compose d k') : k = k' := by
  have hs := (valid_spec hv).2.2.2
  have hr := rad_sq d
  have e1 := congrArg Dr.x e
  have e2 := congrArg Dr.y e
  unfold compose at e1 e2
  rw [if_neg (by rw [hv]; simp; omega), if_neg (by rw [hv]; simp; omega)] at e1 e2
  simp only [byv] at e1 e2
  apply cs_inj h h'
  obtain ⟨x, y, n⟩ := d
  simp only at hs e1 e2
  generalize cs k = u at e1 e2
  generalize cs k' = w at e1 e2
  obtain ⟨u1, u2⟩ := u
  obtain ⟨w1, w2⟩ := w
  simp only at e1 e2
  rw [← hs] at hr
  have a1 : (u1 - w1) * (x * x + y * y) = 0 := by grind
  have a2 : (u2 - w2) * (x * x + y * y) = 0 := by grind
  have b1 := mul_cancel0 a1 hr
  have b2 := mul_cancel0 a2 hr
  exact Prod.ext (by simp only; omega) (by simp only; omega)
theorem offset_inj {d d' : Dr} (hd : 0 ≤ d.n ∧ d.n ≤ 3) (hn : d'.n = d.n) {n : Int} (h1 : 1 ≤ n) (e : offset d n = offset d' n) : d = d' := by
  have hu := unit_bound d hd
  have hr : rad d' = rad d := by unfold rad; rw [hn]
  have e1 := congrArg Prod.fst e
  have e2 := congrArg Prod.snd e
  simp only [offset, hr] at e1 e2
  generalize 4394000 / rad d = m at *
  have hm : 1 ≤ m := by
    rcases Int.lt_or_le 0 m with h | h
    · omega
    · obtain rfl : m = 0 := by omega
      simp at hu
  have hp : 1 ≤ n * m := by have := Int.mul_le_mul h1 hm (by omega) (by omega); omega
  have a1 : (d.x - d'.x) * (n * m) = 0 := by grind
  have a2 : (d.y - d'.y) * (n * m) = 0 := by grind
  have b1 := mul_cancel0 a1 hp
  have b2 := mul_cancel0 a2 hp
  obtain ⟨x, y, l⟩ := d
  obtain ⟨x', y', l'⟩ := d'
  simp only at *
  obtain rfl : x = x' := by omega
  obtain rfl : y = y' := by omega
  rw [hn]
theorem offset_len {d : Dr} (hv : valid d = true) (n : Int) : (offset d n).1 * (offset d n).1 + (offset d n).2 * (offset d n).2 = n * n * (4394000 * 4394000) := by
  have hs := valid_spec hv
  have hu := (unit_bound d hs.1).2.2.2
  have h4 := hs.2.2.2
  simp only [offset]
  generalize 4394000 / rad d = m at hu
  rw [← hu]
  grind
theorem V2.add_inj {p q r : V2} (h : p.add r = q.add r) : p = q := by
  simp only [V2.add, Prod.mk.injEq] at h
  exact Prod.ext (by omega) (by omega)
theorem V2.add_inj' {p q r : V2} (h : r.add p = r.add q) : p = q := by
  simp only [V2.add, Prod.mk.injEq] at h
  exact Prod.ext (by omega) (by omega)
theorem all_spec {a : Ar} {at' : V2} {d : Dr} {q : J3} (h : q ∈ all a at' d) : ((a.low.a ≤ q.a ∧ q.a ≤ a.high.a) ∧ (a.low.b ≤ q.b ∧ q.b ≤ a.high.b) ∧ a.low.c ≤ q.c ∧ q.c ≤ a.high.c) ∧ pC a q = at' ∧ dC q = d := by
  obtain ⟨h1, h2⟩ := all_mem.1 h
  simp [fits] at h1
  simp [reaches] at h2
  exact ⟨⟨h1.1.1, h1.1.2, h1.2⟩, h2⟩
theorem all_pB {a : Ar} {at' : V2} {d : Dr} {q : J3} (h : q ∈ all a at' d) : pB a q = at'.sub (offset d a.lens.c) := by
  obtain ⟨_, h1, h2⟩ := all_spec h
  rw [V2.sub_eq, ← h1, ← h2]; rfl
theorem uniq {a : Ar} (h : RightP a) {at' : V2} {d : Dr} {p q : J3} (hp : p ∈ all a at' d) (hq : q ∈ all a at' d) (e : p.a = q.a) : p = q := by
  have hlo := h.low
  have hhi := h.high
  have hl := h.lens
  have sp := all_spec hp
  have sq := all_spec hq
  have eA : dA p = dA q := by unfold dA; rw [e]
  have eB : pB a p = pB a q := (all_pB hp).trans (all_pB hq).symm
  unfold pB pA at eB
  rw [eA] at eB
  have eO := V2.add_inj' eB
  have vA := dA_valid q
  have vBp := dB_valid p
  have vBq := dB_valid q
  have eD := offset_inj (by omega) (by omega) (by omega) eO
  have eb : p.b = q.b := by
    have e' := eD
    unfold dB at e'
    rw [eA] at e'
    exact compose_inj vA.1 (by omega) (by omega) (by omega) e'
  have ec : p.c = q.c := by
    have e' : dC p = dC q := sp.2.2.trans sq.2.2.symm
    unfold dC at e'
    rw [eD] at e'
    exact compose_inj vBq.1 (by omega) (by omega) (by omega) e'
  obtain ⟨p0, p1, p2⟩ := p
  obtain ⟨q0, q1, q2⟩ := q
  simp only at e eb ec
  rw [e, eb, ec]
theorem upto_sorted (lo : Int) (n : Nat) : (upto lo n).Pairwise (· < ·) := by
  unfold upto
  rw [List.pairwise_map]
  exact List.Pairwise.imp (fun h => by omega) List.pairwise_lt_range
theorem all_sorted (a : Ar) (at' : V2) (d : Dr) : (all a at' d).Pairwise J3.lt := by
  unfold all all1
  rw [List.pairwise_flatMap]
  constructor
  · intro i _
    unfold all2
    rw [List.pairwise_flatMap]
    constructor
    · intro j _
      unfold all3
      refine List.Pairwise.filter _ ?_
      rw [List.pairwise_map]
      exact (upto_sorted _ _).imp fun h => .inr ⟨rfl, .inr ⟨rfl, h⟩⟩
    · refine (upto_sorted _ _).imp fun h => ?_
      intro x hx y hy
      unfold all3 at hx hy
      simp only [List.mem_filter, List.mem_map] at hx hy
      obtain ⟨⟨_, _, rfl⟩, _⟩ := hx
      obtain ⟨⟨_, _, rfl⟩, _⟩ := hy
      exact .inr ⟨rfl, .inl h⟩
  · refine (upto_sorted _ _).imp fun h => ?_
    intro x hx y hy
    unfold all2 all3 at hx hy
    simp only [List.mem_flatMap, List.mem_filter, List.mem_map] at hx hy
    obtain ⟨_, _, ⟨_, _, rfl⟩, _⟩ := hx
    obtain ⟨_, _, ⟨_, _, rfl⟩, _⟩ := hy
    exact .inl h
theorem all_firsts {a : Ar} (h : RightP a) (at' : V2) (d : Dr) : (all a at' d).Pairwise fun p q => p.a < q.a := by
  refine List.Pairwise.imp_of_mem ?_ (all_sorted a at' d)
  intro p q hp hq hlt
  rcases Int.lt_trichotomy p.a q.a with h1 | h1 | h1
  · exact h1
  · have := uniq h hp hq h1
    subst this
    unfold J3.lt at hlt; omega
  · unfold J3.lt at hlt; omega
theorem firsts_len {l : List J3} (h : l.Pairwise fun p q => p.a < q.a) {lo : Int} (hb : ∀ x ∈ l, lo ≤ x.a ∧ x.a ≤ 18) (hlo : lo ≤ 19) : (l.length : Int) ≤ 19 - lo := by
  induction l generalizing lo with
  | nil => simp; omega
  | cons x l ih =>
    obtain ⟨h1, h2⟩ := List.pairwise_cons.1 h
    have hx := hb x (by simp)
    have := ih h2 (lo := x.a + 1) (fun y hy => ⟨by have := h1 y hy; omega, (hb y (by simp [hy])).2⟩) (by omega)
    simp only [List.length_cons]
    omega
theorem all_36 {a : Ar} (h : RightP a) (at' : V2) (d : Dr) : (all a at' d).length ≤ 36 := by
  have hlo := h.low
  have hhi := h.high
  have := firsts_len (all_firsts h at' d) (lo := -17) (fun x hx => by have := (all_spec hx).1.1; omega) (by omega)
  omega
theorem cross0 {x y x' y' vx vy : Int} (g : x * x + y * y = x' * x' + y' * y') (g3 : (x - x') * vx + (y - y') * vy = 0) (g4 : ¬ (x = x' ∧ y = y')) : (x + x') * vy - (y + y') * vx = 0 := by
  have q : (x - x') * (x + x') = -((y - y') * (y + y')) := by grind
  have q2 : (x - x') * vx = -((y - y') * vy) := by omega
  have p1 : (x - x') * ((x + x') * vy - (y + y') * vx) = 0 := by
    have e : (x - x') * ((x + x') * vy - (y + y') * vx) = ((x - x') * (x + x')) * vy - (y + y') * ((x - x') * vx) := by clear g g3 g4 q q2; grind
    rw [e, q, q2]; clear e g g3 g4 q q2; grind
  have p2 : (y - y') * ((x + x') * vy - (y + y') * vx) = 0 := by
    have e : (y - y') * ((x + x') * vy - (y + y') * vx) = (x + x') * ((y - y') * vy) - ((y - y') * (y + y')) * vx := by clear g g3 g4 q q2 p1; grind
    have q3 : (y - y') * vy = -((x - x') * vx) := by omega
    have q4 : (y - y') * (y + y') = -((x - x') * (x + x')) := by omega
    rw [e, q3, q4]; clear e g g3 g4 q q2 p1 q3 q4; grind
  rcases Int.mul_eq_zero.1 p1 with e | e
  · rcases Int.mul_eq_zero.1 p2 with e' | e'
    · exact (g4 ⟨by omega, by omega⟩).elim
    · exact e'
  · exact e
theorem sq0 {a b vx vy : Int} (h1 : a * vx + b * vy = 0) (h2 : a * vy - b * vx = 0) : a * (vx * vx + vy * vy) = 0 ∧ b * (vx * vx + vy * vy) = 0 := by
  constructor
  · have e : a * (vx * vx + vy * vy) = vx * (a * vx + b * vy) + vy * (a * vy - b * vx) := by clear h1 h2; grind
    rw [e, h1, h2]; simp
  · have e : b * (vx * vx + vy * vy) = vy * (a * vx + b * vy) - vx * (a * vy - b * vx) := by clear h1 h2; grind
    rw [e, h1, h2]; simp
theorem dot0 {x y x' y' vx vy : Int} (g : x * x + y * y = x' * x' + y' * y') (k : (vx - x) * (vx - x) + (vy - y) * (vy - y) = (vx - x') * (vx - x') + (vy - y') * (vy - y')) : (x - x') * vx + (y - y') * vy = 0 := by grind
theorem circles {x1 y1 x2 y2 x3 y3 vx vy r s : Int} (h1 : x1 * x1 + y1 * y1 = r) (h2 : x2 * x2 + y2 * y2 = r) (h3 : x3 * x3 + y3 * y3 = r)
    (k1 : (vx - x1) * (vx - x1) + (vy - y1) * (vy - y1) = s) (k2 : (vx - x2) * (vx - x2) + (vy - y2) * (vy - y2) = s) (k3 : (vx - x3) * (vx - x3) + (vy - y3) * (vy - y3) = s)
    (d12 : ¬ (x1 = x2 ∧ y1 = y2)) (d13 : ¬ (x1 = x3 ∧ y1 = y3)) (d23 : ¬ (x2 = x3 ∧ y2 = y3)) : vx = 0 ∧ vy = 0 := by
  have a12 := dot0 (h1.trans h2.symm) (k1.trans k2.symm)
  have a13 := dot0 (h1.trans h3.symm) (k1.trans k3.symm)
  have a23 := dot0 (h2.trans h3.symm) (k2.trans k3.symm)
  have c12 := cross0 (h1.trans h2.symm) a12 d12
  have c13 := cross0 (h1.trans h3.symm) a13 d13
  have c23 : (x2 - x3) * vy - (y2 - y3) * vx = 0 := by
    have e : (x2 - x3) * vy - (y2 - y3) * vx = ((x1 + x2) * vy - (y1 + y2) * vx) - ((x1 + x3) * vy - (y1 + y3) * vx) := by
      clear h1 h2 h3 k1 k2 k3 d12 d13 d23 a12 a13 a23 c12 c13; grind
    rw [e, c12, c13]; rfl
  obtain ⟨f1, f2⟩ := sq0 a23 c23
  have hz : vx * vx + vy * vy = 0 := by
    rcases Int.mul_eq_zero.1 f1 with e | e
    · rcases Int.mul_eq_zero.1 f2 with e' | e'
      · exact (d23 ⟨by omega, by omega⟩).elim
      · exact e'
    · exact e
  have n1 := mul_self_nn vx
  have n2 := mul_self_nn vy
  have z1 : vx * vx = 0 := by omega
  have z2 : vy * vy = 0 := by omega
  exact ⟨by rcases Int.mul_eq_zero.1 z1 with h | h <;> exact h, by rcases Int.mul_eq_zero.1 z2 with h | h <;> exact h⟩
theorem all_two {a : Ar} (h : RightP a) (at' : V2) (d : Dr) (hne : at'.sub (offset d a.lens.c) ≠ a.base) : (all a at' d).length ≤ 2 := by
  have hlo := h.low
  have hhi := h.high
  have hl := h.lens
  have hm : ∀ q ∈ all a at' d, (offset (dA q) a.lens.a).1 * (offset (dA q) a.lens.a).1 + (offset (dA q) a.lens.a).2 * (offset (dA q) a.lens.a).2 = a.lens.a * a.lens.a * (4394000 * 4394000) ∧
      ((at'.sub (offset d a.lens.c)).1 - a.base.1 - (offset (dA q) a.lens.a).1) * ((at'.sub (offset d a.lens.c)).1 - a.base.1 - (offset (dA q) a.lens.a).1) + ((at'.sub (offset d a.lens.c)).2 - a.base.2 - (offset (dA q) a.lens.a).2) * ((at'.sub (offset d a.lens.c)).2 - a.base.2 - (offset (dA q) a.lens.a).2) = a.lens.b * a.lens.b * (4394000 * 4394000) := by
    intro q hq
    refine ⟨offset_len (dA_valid q).1 _, ?_⟩
    rw [← offset_len (dB_valid q).1 a.lens.b, ← all_pB hq]
    have e1 : (pB a q).1 - a.base.1 - (offset (dA q) a.lens.a).1 = (offset (dB q) a.lens.b).1 := by simp only [pB, pA, V2.add]; omega
    have e2 : (pB a q).2 - a.base.2 - (offset (dA q) a.lens.a).2 = (offset (dB q) a.lens.b).2 := by simp only [pB, pA, V2.add]; omega
    rw [e1, e2]
  have dist2 : ∀ p ∈ all a at' d, ∀ q ∈ all a at' d, p.a < q.a → ¬ ((offset (dA p) a.lens.a).1 = (offset (dA q) a.lens.a).1 ∧ (offset (dA p) a.lens.a).2 = (offset (dA q) a.lens.a).2) := by
    intro p hp q hq hlt ⟨e1, e2⟩
    have vp := dA_valid p
    have vq := dA_valid q
    have e := offset_inj (by omega) (by omega) (by omega) (Prod.ext e1 e2)
    have sp := (all_spec hp).1.1
    have sq := (all_spec hq).1.1
    have := compose_inj valid_100 (by simp) (by omega) (by omega) e
    omega
  have hs := all_firsts h at' d
  generalize all a at' d = l at hm dist2 hs
  match l, hm, dist2, hs with
  | [], _, _, _ => simp
  | [_], _, _, _ => simp
  | [_, _], _, _, _ => simp
  | p :: q :: r :: l, hm, dist2, hs =>
    exfalso
    apply hne
    obtain ⟨g1, g2⟩ := List.pairwise_cons.1 hs
    obtain ⟨g3, _⟩ := List.pairwise_cons.1 g2
    have mp := hm p (by simp)
    have mq := hm q (by simp)
    have mr := hm r (by simp)
    have := circles mp.1 mq.1 mr.1 mp.2 mq.2 mr.2 (dist2 p (by simp) q (by simp) (g1 q (by simp))) (dist2 p (by simp) r (by simp) (g1 r (by simp))) (dist2 q (by simp) r (by simp) (g3 r (by simp)))
    exact Prod.ext (by omega) (by omega)
end Go.Proofs
