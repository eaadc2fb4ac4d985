/- Expansion: walks of the law's making of programs. -/
import Derived.Test.YtnanajdckbfamaaGreatDoorX18
import Derived.Test.YtnanajdckbfamaaGreatDoorC4
set_option linter.unusedVariables false
set_option linter.unusedSimpArgs false
set_option maxRecDepth 100000
namespace Go.Proofs
open Go Go.Abs
attribute [local irreducible] wpc aSeq awAny endA guardK condK CallK callT aPlan onlyL takeL aeffK takeE loopG bodyA thenA inBlockA planK roundG assignG bodyI endI YieldK unrollG endP
/-- Raw data of a statement. -/
structure Wd where
  kind : Nat
  arm : Nat
  part : Nat
  at' : Nat
  a0 : Nat
  a1 : Nat
  a2 : Nat
  b0 : Nat
  b1 : Nat
  b2 : Nat
  n : Nat
structure WdOk (x : Wd) : Prop where
  h : x.kind < 256 ∧ x.arm < 256 ∧ x.part < 256 ∧ x.at' < 256 ∧ x.a0 < 256 ∧ x.a1 < 256 ∧ x.a2 < 256 ∧ x.b0 < 256 ∧ x.b1 < 256 ∧ x.b2 < 256 ∧ x.n < 65536
abbrev Wd.cells (x : Wd) : List AV := [.int .u8 x.kind, .int .u8 x.arm, .int .u8 x.part, .int .u8 x.at', .int .u8 x.a0, .int .u8 x.a1, .int .u8 x.a2, .int .u8 x.b0, .int .u8 x.b1, .int .u8 x.b2, .int .u16 x.n]
abbrev Wd.av (x : Wd) : AV := .agg x.cells
def wdcs (l : List Wd) : List (List AV) := l.map fun x => [.int .u8 x.kind, .int .u8 x.arm, .int .u8 x.part, .int .u8 x.at', .int .u8 x.a0, .int .u8 x.a1, .int .u8 x.a2, .int .u8 x.b0, .int .u8 x.b1, .int .u8 x.b2, .int .u16 x.n]
@[simp] theorem wdcs_length (l : List Wd) : (wdcs l).length = l.length := by simp [wdcs]
def wd0 : Wd := ⟨0, 0, 0, 0, 0, 0, 0, 0, 0, 0, 0⟩
def wdat (l : List Wd) (i : Nat) : Wd := l.getD i wd0
theorem wdcs_get {l : List Wd} {i : Nat} (h : i < l.length) : (wdcs l)[i]? = some (wdat l i).cells := by simp [wdcs, wdat, h]
def great13 (c : Ce) (l : List Wd) : Bool := great9 c || !rightC c || decide (40 < l.length)
theorem SmallC.ceB {c : Ce} (h : SmallC c) : CeB c := by
  have f : ∀ (l : List (List V2)) (n : Nat), (∀ i < l.length, (fat l i).length ≤ 20) → ∀ i, (fat l i).length ≤ 1000000 := fun l n hl i => by
    by_cases hi : i < l.length
    · have := hl i hi; omega
    · have hn : l[i]? = none := List.getElem?_eq_none (by omega)
      simp [fat, List.getD, hn]
  refine ⟨by have := h.fix; omega, f _ 0 h.fixl, by have := h.zones; omega, f _ 0 h.zonesl, by have := h.places; omega, fun p hp => ?_, by have := h.parts; omega, fun p hp => ?_, ?_⟩
  · obtain ⟨i, hi, rfl⟩ := List.getElem_of_mem hp
    have := h.placesl i hi
    simp [plat, hi] at this
    omega
  · obtain ⟨i, hi, rfl⟩ := List.getElem_of_mem hp
    have := h.partsl i hi
    simp [ptat, hi] at this
    omega
  · have := h.belt; omega
theorem Great13_pure (c : Ce) (l : List Wd) : Pure Tryz.prog 10 [c.av, .sl 11 (wdcs l) .unk] (.bool (great13 c l)) := by
  refine pure_val fun σ ns _ => ?_; refine acalls_of_wpc Tryz.mixed Tryz.dr10 Tryz.func10 rfl (Tryz.fit10 _ rfl) Tryz.en10 (fun hσ => ?_); simp [Tryz.ntmps10]
  first | refine Pure.use_le (Great9_pure c) ?_ | refine callT_le (Great9_pure c) ?_
  simp
  refine guardK_cases (fun h1 => ?_) (fun h1 => ?_) <;> simp [h1]
  · exact endA_eq (by simp [great13, h1]) (by simp)
  have hb : CeB c := SmallC.ceB (by unfold great9 at h1; simpa using h1)
  first | refine Pure.use_le (Right9_pure c hb) ?_ | refine callT_le (Right9_pure c hb) ?_
  simp
  refine guardK_cases (fun h2 => ?_) (fun h2 => ?_) <;> simp [h2]
  · exact endA_eq (by simp at h2; simp [great13, h1, h2]) (by simp)
  · exact endA_eq (by simp at h2; simp [great13, h1, h2]; omega) (by simp)
def limq (lo hi : Int) (q : Nat) : Int := lo + (q : Int) % (hi - lo + 1)
def stmtOf (c : Ce) (x : Wd) (k : Int) : Sb :=
  if c.parts.length = 0 ∨ c.places.length = 0 then ⟨6, (x.arm : Int) % 2, ⟨#[]⟩, ⟨#[]⟩, (x.n : Int) % 2001, j0', j0', k⟩ else
  ⟨(x.kind : Int) % 8 + 1, (x.arm : Int) % 2, (ptat c.parts (x.part % c.parts.length)).name, (plat c.places (x.at' % c.places.length)).name, (x.n : Int) % 2001,
    ⟨limq c.a0.low.a c.a0.high.a x.a0, limq c.a0.low.b c.a0.high.b x.a1, limq c.a0.low.c c.a0.high.c x.a2⟩, ⟨limq c.a1.low.a c.a1.high.a x.b0, limq c.a1.low.b c.a1.high.b x.b1, limq c.a1.low.c c.a1.high.c x.b2⟩, k⟩
theorem tmodN (a b : Nat) : ((a : Int).tmod (b : Int)) = ((a % b : Nat) : Int) := by
  rw [Int.tmod_eq_emod_of_nonneg (by omega)]; simp
theorem wrap_nat {n : Nat} (h : n < 1000000000) : IntKind.wrap .i64 (n : Int) = (n : Int) := wrap64 (by omega) (by omega)
theorem limq_facts {lo hi : Int} {q : Nat} (h1 : -17 ≤ lo) (h2 : lo ≤ hi) (h3 : hi ≤ 18) (h4 : q < 256) : IntKind.wrap .i64 (q : Int) = q ∧ IntKind.wrap .i64 (hi - lo) = hi - lo ∧ IntKind.wrap .i64 (hi - lo + 1) = hi - lo + 1 ∧ ¬ hi - lo + 1 = 0 ∧ (q : Int).tmod (hi - lo + 1) = (q : Int) % (hi - lo + 1) ∧ IntKind.wrap .i64 (lo + (q : Int) % (hi - lo + 1)) = lo + (q : Int) % (hi - lo + 1) := by
  have e1 := Int.emod_nonneg (q : Int) (show hi - lo + 1 ≠ 0 by omega)
  have e2 := Int.emod_lt_of_pos (q : Int) (show 0 < hi - lo + 1 by omega)
  exact ⟨wrap64 (by omega) (by omega), wrap64 (by omega) (by omega), wrap64 (by omega) (by omega), by omega, Int.tmod_eq_emod_of_nonneg (by omega), wrap64 (by omega) (by omega)⟩
theorem limq_fit {lo hi : Int} {q : Nat} (h2 : lo ≤ hi) : lo ≤ limq lo hi q ∧ limq lo hi q ≤ hi := by
  have e1 := Int.emod_nonneg (q : Int) (show hi - lo + 1 ≠ 0 by omega)
  have e2 := Int.emod_lt_of_pos (q : Int) (show 0 < hi - lo + 1 by omega)
  unfold limq; omega
set_option maxHeartbeats 1000000 in
theorem stmt_pure (c : Ce) (hc : RightC c) (x : Wd) (hx : WdOk x) (k : Int) : Pure Tryz.prog 26 [c.av, x.av, .int .i64 k] (.agg ((stmtOf c x k).cells (.sl 0 [] .nil))) := by
  obtain ⟨g1, g2, g3, g4, g5, g6, g7, g8, g9, g10, g11⟩ := hx.h
  have p8 := hc.parts8
  have p16 := hc.places16
  have v1 : IntKind.wrap .i64 (x.kind : Int) = (x.kind : Int) := wrap_nat (by omega)
  have v2 : IntKind.wrap .i64 (x.arm : Int) = (x.arm : Int) := wrap_nat (by omega)
  have v3 : IntKind.wrap .i64 (x.part : Int) = (x.part : Int) := wrap_nat (by omega)
  have v4 : IntKind.wrap .i64 (x.at' : Int) = (x.at' : Int) := wrap_nat (by omega)
  have v11 : IntKind.wrap .i64 (x.n : Int) = (x.n : Int) := wrap_nat (by omega)
  refine pure_val fun σ ns _ => ?_; refine acalls_of_wpc Tryz.mixed Tryz.dr26 Tryz.func26 rfl (Tryz.fit26 _ rfl) Tryz.en26 (fun hσ => ?_); simp [Tryz.ntmps26]
  have t8 : (x.kind : Int).tmod 8 = (x.kind : Int) % 8 := Int.tmod_eq_emod_of_nonneg (by omega)
  have t2 : (x.arm : Int).tmod 2 = (x.arm : Int) % 2 := Int.tmod_eq_emod_of_nonneg (by omega)
  have tn : (x.n : Int).tmod 2001 = (x.n : Int) % 2001 := Int.tmod_eq_emod_of_nonneg (by omega)
  have w8 : IntKind.wrap .i64 ((x.kind : Int) % 8 + 1) = (x.kind : Int) % 8 + 1 := wrap64 (by omega) (by omega)
  simp [v1, v2, v3, v4, v11, t8, t2, tn, w8]
  have fin : c.parts.length = 0 ∨ c.places.length = 0 → stmtOf c x k = ⟨6, (x.arm : Int) % 2, ⟨#[]⟩, ⟨#[]⟩, (x.n : Int) % 2001, j0', j0', k⟩ := fun h => if_pos h
  refine guardK_cases (fun h1 => ?_) (fun h1 => ?_) <;> simp [h1] <;> (try simp at h1)
  · rw [fin (.inl (by simp [h1]))]
    exact endA_eq (by simp [j0']) (by simp)
  refine condK_cases (fun h2 => ?_) (fun h2 => ?_) <;> simp [h2] <;> (try simp at h2)
  · rw [fin (.inr (by simp [h2]))]
    exact endA_eq (by simp [j0']) (by simp)
  have hP : 0 < c.parts.length := by rcases Nat.eq_zero_or_pos c.parts.length with h | h; exact absurd (List.length_eq_zero_iff.1 h) h1; exact h
  have hL : 0 < c.places.length := by rcases Nat.eq_zero_or_pos c.places.length with h | h; exact absurd (List.length_eq_zero_iff.1 h) h2; exact h
  have fin2 : stmtOf c x k = _ := if_neg (by omega)
  have hp : x.part % c.parts.length < c.parts.length := Nat.mod_lt _ hP
  have hl : x.at' % c.places.length < c.places.length := Nat.mod_lt _ hL
  have tp := tmodN x.part c.parts.length
  have tl := tmodN x.at' c.places.length
  generalize x.part % c.parts.length = p at *
  generalize x.at' % c.places.length = q at *
  have hgp := ptcs_get hp
  have hgl := plcs_get hl
  simp [h1, h2, v3, v4, tp, tl, hgp, hgl]
  have r0 := right_spec hc.arm0
  have r1 := right_spec hc.arm1
  obtain ⟨y000, y001, y002, y003, y004, y005⟩ := limq_facts (q := x.a0) r0.low.1 r0.rg.1 r0.high.1 (by omega)
  obtain ⟨y010, y011, y012, y013, y014, y015⟩ := limq_facts (q := x.a1) r0.low.2.1 r0.rg.2.1 r0.high.2.1 (by omega)
  obtain ⟨y020, y021, y022, y023, y024, y025⟩ := limq_facts (q := x.a2) r0.low.2.2 r0.rg.2.2 r0.high.2.2 (by omega)
  obtain ⟨y100, y101, y102, y103, y104, y105⟩ := limq_facts (q := x.b0) r1.low.1 r1.rg.1 r1.high.1 (by omega)
  obtain ⟨y110, y111, y112, y113, y114, y115⟩ := limq_facts (q := x.b1) r1.low.2.1 r1.rg.2.1 r1.high.2.1 (by omega)
  obtain ⟨y120, y121, y122, y123, y124, y125⟩ := limq_facts (q := x.b2) r1.low.2.2 r1.rg.2.2 r1.high.2.2 (by omega)
  refine wpc_unroll 2 (fun k => ?_)
  simp
  refine wpc_unroll 3 (fun k => ?_)
  simp [y000, y001, y002, y003, y004, y005]
  refine unroll_next (fun k => ?_)
  simp [y010, y011, y012, y013, y014, y015]
  refine unroll_next (fun k => ?_)
  simp [y020, y021, y022, y023, y024, y025]
  refine unroll_next (fun k => ?_)
  simp
  refine unroll_next (fun k => ?_)
  simp
  refine wpc_unroll 3 (fun k => ?_)
  simp [y100, y101, y102, y103, y104, y105]
  refine unroll_next (fun k => ?_)
  simp [y110, y111, y112, y113, y114, y115]
  refine unroll_next (fun k => ?_)
  simp [y120, y121, y122, y123, y124, y125]
  refine unroll_next (fun k => ?_)
  simp
  refine unroll_next (fun k => ?_)
  simp
  rw [fin2]
  exact endA_eq (by simp [limq]) (by simp)
end Go.Proofs
