/- Walks of the points of an arm, and of its validity. -/
import Derived.Test.YtajdhkchgidjmaaW8
set_option linter.unusedVariables false
set_option linter.unusedSimpArgs false
set_option maxRecDepth 100000
namespace Go.Proofs
open Go Go.Abs
attribute [local irreducible] wpc aSeq awAny endA guardK condK CallK callT aPlan onlyL takeL aeffK takeE loopG bodyA thenA inBlockA planK roundG assignG bodyI endI YieldK unrollG
theorem dA_valid (q : J3) : valid (dA q) = true ∧ (dA q).n = 1 := by
  have := compose_valid valid_100 (by simp) q.a
  exact ⟨this.1, by rw [dA, this.2]; rfl⟩
theorem dB_valid (q : J3) : valid (dB q) = true ∧ (dB q).n = 2 := by
  have h := dA_valid q
  have := compose_valid h.1 (by omega) q.b
  exact ⟨this.1, by rw [dB, this.2, h.2]; rfl⟩
theorem dC_valid (q : J3) : valid (dC q) = true ∧ (dC q).n = 3 := by
  have h := dB_valid q
  have := compose_valid h.1 (by omega) q.c
  exact ⟨this.1, by rw [dC, this.2, h.2]; rfl⟩
/-- How far an offset leads. -/
theorem off40 {d : Dr} (h : valid d = true) {n : Int} (hn : 0 ≤ n ∧ n ≤ 40) : (-175760000 ≤ (offset d n).1 ∧ (offset d n).1 ≤ 175760000) ∧ -175760000 ≤ (offset d n).2 ∧ (offset d n).2 ≤ 175760000 := by
  have hv := valid_spec h
  have hr := rad_bound d
  have hu := unit_bound d hv.1
  have key : ∀ x : Int, -rad d ≤ x → x ≤ rad d → -175760000 ≤ n * (4394000 / rad d) * x ∧ n * (4394000 / rad d) * x ≤ 175760000 := by
    intro x h1 h2
    generalize 4394000 / rad d = m at hu
    have a1 := mul_bound (a := m) (b := x) (A := m) (B := rad d) (by omega) (by omega) (by omega) (by omega)
    rw [hu.2.2.2] at a1
    have a2 := mul_bound (a := n) (b := m * x) (A := 40) (B := 4394000) (by omega) (by omega) (by omega) (by omega)
    rw [Int.mul_assoc]
    omega
  exact ⟨key _ hv.2.1.1 hv.2.1.2, key _ hv.2.2.1.1 hv.2.2.1.2⟩
/-- A valid arm. -/
def right (a : Ar) : Bool := decide (1 ≤ a.wide ∧ a.wide ≤ 4) && decide (a.base.1 % 16 = 0 ∧ a.base.2 % 16 = 0) &&
  decide ((1 ≤ a.lens.a ∧ a.lens.a ≤ 40) ∧ (1 ≤ a.lens.b ∧ a.lens.b ≤ 40) ∧ 1 ≤ a.lens.c ∧ a.lens.c ≤ 40) &&
  decide ((-17 ≤ a.low.a ∧ a.low.a ≤ a.high.a ∧ a.high.a ≤ 18) ∧ (-17 ≤ a.low.b ∧ a.low.b ≤ a.high.b ∧ a.high.b ≤ 18) ∧ -17 ≤ a.low.c ∧ a.low.c ≤ a.high.c ∧ a.high.c ≤ 18) &&
  decide ((-439400000 ≤ a.base.1 - (a.wide + a.lens.a + a.lens.b + a.lens.c) * 4394000 ∧ a.base.1 + (a.wide + a.lens.a + a.lens.b + a.lens.c) * 4394000 ≤ 439400000) ∧
    -439400000 ≤ a.base.2 - (a.wide + a.lens.a + a.lens.b + a.lens.c) * 4394000 ∧ a.base.2 + (a.wide + a.lens.a + a.lens.b + a.lens.c) * 4394000 ≤ 439400000)
structure RightP (a : Ar) : Prop where
  lens : (1 ≤ a.lens.a ∧ a.lens.a ≤ 40) ∧ (1 ≤ a.lens.b ∧ a.lens.b ≤ 40) ∧ 1 ≤ a.lens.c ∧ a.lens.c ≤ 40
  low : -17 ≤ a.low.a ∧ -17 ≤ a.low.b ∧ -17 ≤ a.low.c
  high : a.high.a ≤ 18 ∧ a.high.b ≤ 18 ∧ a.high.c ≤ 18
  rg : a.low.a ≤ a.high.a ∧ a.low.b ≤ a.high.b ∧ a.low.c ≤ a.high.c
  base : (-439400000 ≤ a.base.1 ∧ a.base.1 ≤ 439400000) ∧ -439400000 ≤ a.base.2 ∧ a.base.2 ≤ 439400000
theorem right_spec {a : Ar} (h : right a = true) : RightP a := by
  simp [right] at h
  constructor <;> omega
def pA (a : Ar) (q : J3) : V2 := a.base.add (offset (dA q) a.lens.a)
def pB (a : Ar) (q : J3) : V2 := (pA a q).add (offset (dB q) a.lens.b)
def pC (a : Ar) (q : J3) : V2 := (pB a q).add (offset (dC q) a.lens.c)
theorem points_ok {a : Ar} (h : RightP a) (q : J3) : a.base.ok ∧ (pA a q).ok ∧ (pB a q).ok ∧ (pC a q).ok ∧ (offset (dA q) a.lens.a).ok ∧ (offset (dB q) a.lens.b).ok ∧ (offset (dC q) a.lens.c).ok := by
  have hl := h.lens
  have hb := h.base
  have h1 := off40 (dA_valid q).1 (n := a.lens.a) (by omega)
  have h2 := off40 (dB_valid q).1 (n := a.lens.b) (by omega)
  have h3 := off40 (dC_valid q).1 (n := a.lens.c) (by omega)
  unfold V2.ok pC pB pA V2.add
  simp only
  omega
abbrev psav (a : Ar) (q : J3) : AV := .agg [.int .i64 a.base.1, .int .i64 a.base.2, .int .i64 (pA a q).1, .int .i64 (pA a q).2, .int .i64 (pB a q).1, .int .i64 (pB a q).2, .int .i64 (pC a q).1, .int .i64 (pC a q).2]
section
variable {a : Ar} (h : RightP a) (q : J3)
include h
theorem fineA : Pure Try.prog 21 [(dA q).av, .int .i64 a.lens.a] (offset (dA q) a.lens.a).av := Fine_pure _ _ (dA_valid q).1 (by have := h.lens; omega)
theorem fineB : Pure Try.prog 21 [(dB q).av, .int .i64 a.lens.b] (offset (dB q) a.lens.b).av := Fine_pure _ _ (dB_valid q).1 (by have := h.lens; omega)
theorem fineC : Pure Try.prog 21 [(dC q).av, .int .i64 a.lens.c] (offset (dC q) a.lens.c).av := Fine_pure _ _ (dC_valid q).1 (by have := h.lens; omega)
theorem offA : Pure Try.prog 35 [(dA q).av, .int .i64 a.lens.a] (offset (dA q) a.lens.a).av := Offset_pure _ _ (dA_valid q).1 (by have := h.lens; omega)
theorem offB : Pure Try.prog 35 [(dB q).av, .int .i64 a.lens.b] (offset (dB q) a.lens.b).av := Offset_pure _ _ (dB_valid q).1 (by have := h.lens; omega)
theorem offC : Pure Try.prog 35 [(dC q).av, .int .i64 a.lens.c] (offset (dC q) a.lens.c).av := Offset_pure _ _ (dC_valid q).1 (by have := h.lens; omega)
theorem plusA : Pure Try.prog 50 [a.base.av, (offset (dA q) a.lens.a).av] (pA a q).av := have := points_ok h q; plus_pure _ _ this.1 this.2.2.2.2.1
theorem plusB : Pure Try.prog 50 [(pA a q).av, (offset (dB q) a.lens.b).av] (pB a q).av := have := points_ok h q; plus_pure _ _ this.2.1 this.2.2.2.2.2.1
theorem plusC : Pure Try.prog 50 [(pB a q).av, (offset (dC q) a.lens.c).av] (pC a q).av := have := points_ok h q; plus_pure _ _ this.2.2.1 this.2.2.2.2.2.2
end
set_option maxHeartbeats 4000000 in
theorem points_pure (a : Ar) (q : J3) (h : RightP a) : Pure Try.prog 40 [a.av, q.av] (psav a q) := by
  intro σ ns; refine acalls_of_wpc Try.mixed Try.dr40 Try.func40 rfl (Try.fit40 _ rfl) Try.en40 (fun hσ => ?_); simp [Try.ntmps40]
  refine Pure.use_le (dirs_pure a q) ?_
  simp
  refine wpc_unroll 3 (fun k => ?_)
  simp
  refine callT_le (fineA h q) ?_
  simp
  refine Pure.use_le (plusA h q) ?_
  simp
  refine unroll_next (fun k1 => ?_)
  simp
  refine callT_le (fineB h q) ?_
  simp
  refine Pure.use_le (plusB h q) ?_
  simp
  refine unroll_next (fun k1 => ?_)
  simp
  refine callT_le (fineC h q) ?_
  simp
  refine Pure.use_le (plusC h q) ?_
  simp
  refine unroll_next (fun k1 => ?_)
  simp
  exact endA_eq (by simp) (by simp)
theorem on_acalls (p r : V2) (hp : p.ok) (hr : r.ok) {σ : Store} {ns n : Nm} (hn : σ n = some (.var [.int .i64 r.1, .int .i64 r.2])) : ACalls Try.prog 45 [p.av, .ptr n 0] σ ns fun e σ' => e = .ret (r.add p).av ∧ σ' = σ.up n (.var [.int .i64 (r.add p).1, .int .i64 (r.add p).2]) := by
  refine acalls_of_wpc Try.mixed Try.dr45 Try.func45 rfl (Try.fit45 _ rfl) Try.en45 (fun hσ => ?_); simp [Try.ntmps45]
  have hu : ∀ m : Nm, m.under ns = true → ¬ n = m := fun m hm e => by subst e; rw [hσ n hm] at hn; cases hn
  have u0 := hu ((ns.sub 0).sub 0) (by simp [Nm.under])
  have u1 := hu ((ns.sub 0).sub 1) (by simp [Nm.under])
  have v0 : ¬ (ns.sub 0).sub 0 = n := fun e => u0 e.symm
  have v1 : ¬ (ns.sub 0).sub 1 = n := fun e => u1 e.symm
  have hf : n.under ns = false := by cases hh : n.under ns with | false => rfl | true => exact (hu n hh rfl).elim
  simp [u0, u1, v0, v1, hn]
  refine Pure.use_le (gAdd_pure r p hr hp) ?_
  simp [u0, u1, v0, v1, hn]
  refine endA_intro (StWeak.of_eq ?_) ⟨rfl, rfl⟩
  rw [restoreS_up_own (by simp [Nm.under]), restoreS_up_out hf]
  simp
section
variable {a : Ar} (h : RightP a) (q : J3) {σ : Store} {ns n : Nm}
include h
theorem onA (hn : σ n = some (.var [.int .i64 a.base.1, .int .i64 a.base.2])) : ACalls Try.prog 45 [(offset (dA q) a.lens.a).av, .ptr n 0] σ ns fun e σ' => e = .ret (pA a q).av ∧ σ' = σ.up n (.var [.int .i64 (pA a q).1, .int .i64 (pA a q).2]) := have := points_ok h q; on_acalls _ _ this.2.2.2.2.1 this.1 hn
theorem onB (hn : σ n = some (.var [.int .i64 (pA a q).1, .int .i64 (pA a q).2])) : ACalls Try.prog 45 [(offset (dB q) a.lens.b).av, .ptr n 0] σ ns fun e σ' => e = .ret (pB a q).av ∧ σ' = σ.up n (.var [.int .i64 (pB a q).1, .int .i64 (pB a q).2]) := have := points_ok h q; on_acalls _ _ this.2.2.2.2.2.1 this.2.1 hn
theorem onC (hn : σ n = some (.var [.int .i64 (pB a q).1, .int .i64 (pB a q).2])) : ACalls Try.prog 45 [(offset (dC q) a.lens.c).av, .ptr n 0] σ ns fun e σ' => e = .ret (pC a q).av ∧ σ' = σ.up n (.var [.int .i64 (pC a q).1, .int .i64 (pC a q).2]) := have := points_ok h q; on_acalls _ _ this.2.2.2.2.2.2 this.2.2.1 hn
end
set_option maxHeartbeats 4000000 in
theorem jointPoints_pure (a : Ar) (q : J3) (h : RightP a) : Pure Try.prog 25 [a.av, q.av] (psav a q) := by
  intro σ ns; refine acalls_of_wpc Try.mixed Try.dr25 Try.func25 rfl (Try.fit25 _ rfl) Try.en25 (fun hσ => ?_); simp [Try.ntmps25]
  refine Pure.use_le (linkDirections_pure a q) ?_
  simp
  refine wpc_unroll 3 (fun k => ?_)
  simp
  refine Pure.use_le (offA h q) ?_
  simp
  refine CallK.use (onA h q (by simp)) ?_
  simp
  refine unroll_next (fun k1 => ?_)
  simp
  refine Pure.use_le (offB h q) ?_
  simp
  refine CallK.use (onB h q (by simp)) ?_
  simp
  refine unroll_next (fun k2 => ?_)
  simp
  refine Pure.use_le (offC h q) ?_
  simp
  refine CallK.use (onC h q (by simp)) ?_
  simp
  refine unroll_next (fun k3 => ?_)
  simp
  exact endA_eq (by simp) (by simp)
theorem tip_pure (a : Ar) (q : J3) (h : RightP a) : Pure Try.prog 16 [a.av, q.av] (.tup [(pC a q).av, (dC q).av]) := by
  intro σ ns; refine acalls_of_wpc Try.mixed Try.dr16 Try.func16 rfl (Try.fit16 _ rfl) Try.en16 (fun hσ => ?_); simp [Try.ntmps16]
  refine Pure.use_le (points_pure a q h) ?_
  simp
  refine Pure.use_le (dirs_pure a q) ?_
  simp
  exact endA_eq (by simp) (by simp)
def reaches (a : Ar) (q : J3) (at' : V2) (d : Dr) : Bool := decide (pC a q = at') && decide (dC q = d)
theorem reaches_eq (a : Ar) (q : J3) (at' : V2) (d : Dr) : reaches a q at' d = (((pC a q).1 == at'.1 && (pC a q).2 == at'.2) && ((dC q).x == d.x && ((dC q).y == d.y && (dC q).n == d.n))) := by
  unfold reaches
  congr 1
  · rw [Bool.eq_iff_iff]; simp [Prod.ext_iff]
  · generalize dC q = e; obtain ⟨x, y, n⟩ := e; obtain ⟨x', y', n'⟩ := d
    rw [Bool.eq_iff_iff]; simp
theorem reaches_pure (a : Ar) (q : J3) (at' : V2) (d : Dr) (h : RightP a) : Pure Try.prog 39 [a.av, q.av, at'.av, d.av] (.bool (reaches a q at' d)) := by
  intro σ ns; refine acalls_of_wpc Try.mixed Try.dr39 Try.func39 rfl (Try.fit39 _ rfl) Try.en39 (fun hσ => ?_); simp [Try.ntmps39]
  refine Pure.use_le (points_pure a q h) ?_
  simp
  refine condK_cases (fun h1 => ?_) (fun h1 => ?_) <;> simp at h1
  · simp [h1]
    exact endA_eq (by rw [reaches_eq]; simp; omega) (by simp)
  · simp [h1]
    refine Pure.use_le (dirs_pure a q) ?_
    simp
    exact endA_eq (by rw [reaches_eq]; simp [h1, Bool.and_assoc]) (by simp)
theorem size_pure (n : Int) (h : -1000000000 ≤ n ∧ n ≤ 1000000000) : Pure Try.prog 31 [.int .i64 n] (.int .i64 (if n < 0 then -n else n)) := by
  intro σ ns; refine acalls_of_wpc Try.mixed Try.dr31 Try.func31 rfl (Try.fit31 _ rfl) Try.en31 (fun hσ => ?_); simp [Try.ntmps31]
  refine condK_cases (fun h1 => ?_) (fun h1 => ?_) <;> simp at h1
  · simp (disch := omega) [wrap64]
    exact endA_eq (by simp [h1]) (by simp)
  · simp
    exact endA_eq (by simp; omega) (by simp)
def near (v : V2) : Bool := decide (v.1 ≤ 1000000000) && decide (-1000000000 ≤ v.1) && decide (v.2 ≤ 1000000000) && decide (-1000000000 ≤ v.2)
theorem far7_pure (a : Ar) : Pure Try.prog 30 [a.av] (.bool (!near a.base)) := by
  intro σ ns; refine acalls_of_wpc Try.mixed Try.dr30 Try.func30 rfl (Try.fit30 _ rfl) Try.en30 (fun hσ => ?_); simp [Try.ntmps30]
  repeat' first
    | (refine guardK_cases (fun h => ?_) (fun h => ?_) <;> simp [h])
  all_goals exact endA_eq (by first | (simp_all [near]; done) | (simp_all [near]; omega) | (simp_all [near]; rw [Bool.eq_iff_iff]; simp)) (by simp)
end Go.Proofs
