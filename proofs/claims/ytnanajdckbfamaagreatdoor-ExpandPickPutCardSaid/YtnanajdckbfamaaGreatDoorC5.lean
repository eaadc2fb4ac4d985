/- Walks: the first state; equality of states; the laws' size bounds. -/
import Derived.Test.YtnanajdckbfamaaGreatDoorC3
set_option linter.unusedVariables false
set_option linter.unusedSimpArgs false
set_option maxRecDepth 100000
namespace Go.Proofs
open Go Go.Abs
attribute [local irreducible] wpc aSeq awAny endA guardK condK CallK callT aPlan onlyL takeL aeffK takeE loopG bodyA thenA inBlockA planK roundG assignG bodyI endI YieldK unrollG
structure Ws where
  q0 : J3
  q1 : J3
  l0 : Int
  l1 : Int
  wher : List Int
  deriving DecidableEq
abbrev Ws.cellsV (w : Ws) (v : AV) : List AV := [.int .i64 w.q0.a, .int .i64 w.q0.b, .int .i64 w.q0.c, .int .i64 w.q1.a, .int .i64 w.q1.b, .int .i64 w.q1.c, .int .i64 w.l0, .int .i64 w.l1, v]
abbrev Ws.cells (w : Ws) : List AV := w.cellsV (.sl 1 (ics w.wher) .unk)
abbrev Ws.av (w : Ws) : AV := .agg w.cells
def first (c : Ce) : Ws := ⟨c.h0, c.h1, -1, -1, c.parts.map Pt.place⟩
theorem aeqQ (x0 x1 y0 y1 : J3) : aeqElems Tryz.prog 8 25 3 [.int .i64 x0.a, .int .i64 x0.b, .int .i64 x0.c, .int .i64 x1.a, .int .i64 x1.b, .int .i64 x1.c] [.int .i64 y0.a, .int .i64 y0.b, .int .i64 y0.c, .int .i64 y1.a, .int .i64 y1.b, .int .i64 y1.c] (List.range 2) = some (decide (x0 = y0 ∧ x1 = y1)) := by
  have e : ∀ x y : J3, aeqElems Tryz.prog 7 3 1 [.int .i64 x.a, .int .i64 x.b, .int .i64 x.c] [.int .i64 y.a, .int .i64 y.b, .int .i64 y.c] (List.range 3) = some (decide (x = y)) := fun x y => by
    obtain ⟨a, b, c⟩ := x; obtain ⟨d, e, f⟩ := y
    simp [aeqElems, apart, aeq, show List.range 3 = [0, 1, 2] from rfl]
    rw [Bool.eq_iff_iff]; simp
  have e1 := e x0 y0
  have e2 := e x1 y1
  simp [aeqElems, apart, aeq, show List.range 2 = [0, 1] from rfl, e1, e2]
theorem aeqI2 (a b c d : Int) : aeqElems Tryz.prog 8 3 1 [.int .i64 a, .int .i64 b] [.int .i64 c, .int .i64 d] (List.range 2) = some (decide (a = c ∧ b = d)) := by
  simp [aeqElems, apart, aeq, show List.range 2 = [0, 1] from rfl]
  rw [Bool.eq_iff_iff]; simp
/-- A variable that holds a growing slice: a round's end. -/
theorem StWk.regrow {base : Store} {W m1 : Nm} {t : Option Nm} {o o1 o2 : AObj} (hW : base W = none) (ht : ∀ m, t = some m → (base.up W o) m = none) (h1 : base m1 = none) (hne : ¬ m1 = W) (hw : VarWk o1 o2) :
    StWk (((gdel (gs (base.up W o) t) t).up m1 .tok).up W o1) (gs (base.up W o2) (some m1)) := by
  have ht' : ∀ m, t = some m → base m = none := fun m hm => by
    have := ht m hm
    rw [Store.up_get] at this
    split at this
    · cases this
    · exact this
  refine StWk.grow (StWk.both ?_ hw) ?_
  · exact StWk.own_up (StWk.own_gdel (StWk.own_gs (StWk.own_up (.refl base) hW) ht') ht') h1
  · intro m hm; cases hm; rw [Store.up_get, if_neg hne, Store.up_same]
theorem First9_pure (c : Ce) (hl : c.parts.length ≤ 1000000) : Pure Tryz.prog 13 [c.av] (first c).av := by
  refine pure_val fun σ ns _ => ?_; refine acalls_of_wpc Tryz.mixed Tryz.dr13 Tryz.func13 rfl (Tryz.fit13 _ rfl) Tryz.en13 (fun hσ => ?_); simp [Tryz.ntmps13]
  refine wpc_loopGB (fun x : Nat × Option Nm => [(9, .any), (10, .any), (11, .any), (12, .any), (13, .any), (14, .any), (15, .any), (16, .any), (17, .any), (18, .any), (19, .any), (20, .any), (21, .any), (22, .any), (23, .any), (24, .any), (25, .any), (26, .any), (4, .int .i64 x.1)]) (fun x => ((σ.up ((ns.sub 0).sub 0) (.var c.cells)).up ((ns.sub 0).sub 1) (.var [.int .i64 0, .int .i64 0, .int .i64 0, .int .i64 0, .int .i64 0, .int .i64 0, .int .i64 0, .int .i64 0, .sl 0 [] .nil])).up ((ns.sub 1).sub 4) (.var ((first c).cellsV (gv 1 x.2 (tpl c.parts x.1)))))
    (fun x => x.2) (fun x => tpl c.parts x.1) (fun x => c.parts.length - x.1) (fun x => x.1 ≤ c.parts.length) (0, none) ns (tpl_zero _) (by simp) ?_ ?_ ?_
  · simp
    (repeat' first | exact AVsle.nil | refine AVsle.cons (AVle.any _) ?_ | refine AVsle.cons (AVle.refl _) ?_ | refine AVsle.cons AVLe.le ?_)
  · refine StWk.both (.refl _) (.inr ⟨_, _, rfl, rfl, ?_⟩)
    simp [first, gv_none]
    (repeat' first | exact AVsle.nil | refine AVsle.cons (AVle.any _) ?_ | refine AVsle.cons (AVle.refl _) ?_ | refine AVsle.cons AVLe.le ?_)
  rintro ⟨i, t⟩ k hi hok hfr hne
  dsimp only at hi hok hfr hne
  have hr : ∀ x, x.under ((ns.sub 3).sub k) = true → ¬ t = some x := fun x h => hne x (.inl h)
  have n0 : ¬ t = some ((ns.sub 0).sub 0) := hne _ (.inr (by simp))
  have n1 : ¬ t = some ((ns.sub 0).sub 1) := hne _ (.inr (by simp))
  have n4 : ¬ t = some ((ns.sub 1).sub 4) := hne _ (.inr (by simp))
  simp [n0, n1, n4, hr]
  refine condK_cases (fun h => ?_) (fun h => ?_) <;> simp [h] <;> (try simp at h)
  · have hg := ptcs_get h
    have w : IntKind.wrap .i64 ((i : Int) + 1) = ((i + 1 : Nat) : Int) := wrap64 (by omega) (by omega)
    have s2 := tpl_succ h
    have hlen2 : (min i c.parts.length + 1) * 8 ≤ 140737488355328 := by omega
    simp (maxDischargeDepth := 6) [n0, n1, n4, hr, hg, hok.gnil, hlen2, first, w]
    refine loopG_normal (i + 1, some ((((ns.sub 3).sub k).sub 1).sub 9)) ⟨by simp only; omega, gok_some (by simp [Nm.under]) ?_⟩ (by simp only; omega) ?_ ?_ rfl rfl
    · have := hfr ((((ns.sub 3).sub k).sub 1).sub 9) (by simp [Nm.under])
      simpa using this
    · simp
      (repeat' first | exact AVsle.nil | refine AVsle.cons (AVle.any _) ?_ | refine AVsle.cons (AVle.refl _) ?_ | refine AVsle.cons AVLe.le ?_)
    · refine StWk.weak (StWk.regrow ?_ hok.fresh ?_ (by simp) (.inl ?_))
      · simp [hσ]
      · simp [hσ]
      · simp only [s2]
  · obtain rfl : i = c.parts.length := by omega
    simp [n0, n1, n4, hr]
    have hle := hok.le (k := 1)
    rw [tpl_all] at hle ⊢
    refine endA_weak ?_ (StWeak.same ?_)
    · refine AVle.agg ?_
      simp [first]
      repeat' first | exact AVsle.nil | refine AVsle.cons (AVle.refl _) ?_ | refine AVsle.cons hle ?_
    · simp [restoreS_gs hok.own]
def sameW (a b : Ws) : Bool := decide (a = b)
theorem SameWorld9_pure (a b : Ws) (ha : a.wher.length ≤ 1000000000) : Pure Tryz.prog 30 [a.av, b.av] (.bool (sameW a b)) := by
  obtain ⟨qa, qb, l0, l1, wa⟩ := a
  obtain ⟨pa, pb, m0, m1, wb⟩ := b
  refine pure_val fun σ ns _ => ?_; refine acalls_of_wpc Tryz.mixed Tryz.dr30 Tryz.func30 rfl (Tryz.fit30 _ rfl) Tryz.en30 (fun hσ => ?_); simp [Tryz.ntmps30]
  simp [aeqQ]
  refine guardK_cases (fun h1 => ?_) (fun h1 => ?_) <;> simp [h1] <;> (try simp at h1)
  · exact endA_eq (congrArg AV.bool (decide_eq_false fun h => by injection h with a b c d e; simp [a, b] at h1).symm) (by simp)
  simp [aeqI2]
  refine guardK_cases (fun h2 => ?_) (fun h2 => ?_) <;> simp [h2] <;> (try simp at h2)
  · exact endA_eq (congrArg AV.bool (decide_eq_false fun h => by injection h with a b c d e; simp [c, d] at h2).symm) (by simp)
  refine condK_cases (fun h3 => ?_) (fun h3 => ?_) <;> simp [h3] <;> (try simp at h3)
  · exact endA_eq (congrArg AV.bool (decide_eq_false fun h => by injection h with a b c d e; simp [e] at h3).symm) (by simp)
  refine wpc_loop0 (fun i : Nat => [(4, .any), (27, .any), (28, .any), (29, .any), (30, .any), (31, .any), (32, .any), (33, .any), (34, .any), (35, .any), (36, .any), (37, .any), (38, .any), (39, .any), (40, .any), (41, .any), (42, .any), (43, .any), (44, .any), (5, .int .i64 i)]) (fun i => wa.length - i) (fun i => i ≤ wa.length ∧ ∀ j < i, iat wa j = iat wb j) 0 (by simp) ?_ ?_
  · simp
    (repeat' first | exact AVsle.nil | refine AVsle.cons (AVle.any _) ?_ | refine AVsle.cons (AVle.refl _) ?_ | refine AVsle.cons AVLe.le ?_)
  rintro i r ⟨hi, hm⟩
  simp
  refine condK_cases (fun h => ?_) (fun h => ?_) <;> simp [h] <;> (try simp at h)
  · have hg := ics_get h
    have hg' := ics_get (l := wb) (i := i) (by omega)
    have w : IntKind.wrap .i64 ((i : Int) + 1) = ((i + 1 : Nat) : Int) := wrap64 (by simp at ha; omega) (by simp at ha; omega)
    simp [hg, hg']
    refine condK_cases (fun h4 => ?_) (fun h4 => ?_) <;> simp [h4] <;> (try simp at h4)
    · exact endA_eq (congrArg AV.bool (decide_eq_false fun h => by injection h with a b c d e; simp [e] at h4).symm) (by simp)
    simp [w]
    (refine loopG_normal (i + 1) (⟨by omega, next_all hm h4⟩) (by omega) ?_ ?_ rfl rfl; rotate_left; exact .of_eq (by simp); simp; (repeat' first | exact AVsle.nil | refine AVsle.cons (AVle.any _) ?_ | refine AVsle.cons (AVle.refl _) ?_ | refine AVsle.cons AVLe.le ?_))
  · obtain rfl : i = wa.length := by omega
    refine endA_eq (congrArg AV.bool (decide_eq_true ?_).symm) (by simp)
    have : wa = wb := List.ext_getElem (by omega) fun j h1' h2' => by
      have := hm j h1'
      simpa [iat, h1', h2'] using this
    rw [h1.1, h1.2, h2.1, h2.2, this]
/-- Cells as small as the laws take. -/
structure SmallC (c : Ce) : Prop where
  fix : c.fix.length ≤ 20
  places : c.places.length ≤ 20
  parts : c.parts.length ≤ 20
  belt : c.belt.length ≤ 30
  zones : c.zones.length ≤ 20
  fixl : ∀ i < c.fix.length, (fat c.fix i).length ≤ 20
  zonesl : ∀ i < c.zones.length, (fat c.zones i).length ≤ 20
  partsl : ∀ i < c.parts.length, (ptat c.parts i).shape.length ≤ 20 ∧ (ptat c.parts i).name.size ≤ 100
  placesl : ∀ i < c.places.length, (plat c.places i).name.size ≤ 100
theorem smallC_iff (c : Ce) : SmallC c ↔ (c.fix.length ≤ 20 ∧ c.places.length ≤ 20 ∧ c.parts.length ≤ 20 ∧ c.belt.length ≤ 30 ∧ c.zones.length ≤ 20 ∧ (∀ i < c.fix.length, (fat c.fix i).length ≤ 20) ∧ (∀ i < c.zones.length, (fat c.zones i).length ≤ 20) ∧ (∀ i < c.parts.length, (ptat c.parts i).shape.length ≤ 20 ∧ (ptat c.parts i).name.size ≤ 100) ∧ ∀ i < c.places.length, (plat c.places i).name.size ≤ 100) :=
  ⟨fun ⟨a, b, d, e, f, g, h, i, j⟩ => ⟨a, b, d, e, f, g, h, i, j⟩, fun ⟨a, b, d, e, f, g, h, i, j⟩ => ⟨a, b, d, e, f, g, h, i, j⟩⟩
instance (c : Ce) : Decidable (SmallC c) := decidable_of_iff _ (smallC_iff c).symm
def great9 (c : Ce) : Bool := !decide (SmallC c)
theorem not_dec {p : Prop} [Decidable p] (h : ¬ p) : true = !decide p := by simp [h]
theorem dec_not {p : Prop} [Decidable p] (h : p) : false = !decide p := by simp [h]
set_option maxHeartbeats 4000000 in
theorem Great9_pure (c : Ce) : Pure Tryz.prog 24 [c.av] (.bool (great9 c)) := by
  refine pure_val fun σ ns _ => ?_; refine acalls_of_wpc Tryz.mixed Tryz.dr24 Tryz.func24 rfl (Tryz.fit24 _ rfl) Tryz.en24 (fun hσ => ?_); simp [Tryz.ntmps24]
  refine guardK_cases (fun h1 => ?_) (fun h1 => ?_) <;> simp [h1] <;> (try simp at h1)
  · exact endA_eq (congrArg AV.bool (not_dec fun h => by have := h.fix; omega)) (by simp)
  refine guardK_cases (fun h2 => ?_) (fun h2 => ?_) <;> simp [h2] <;> (try simp at h2)
  · exact endA_eq (congrArg AV.bool (not_dec fun h => by have := h.places; omega)) (by simp)
  refine guardK_cases (fun h3 => ?_) (fun h3 => ?_) <;> simp [h3] <;> (try simp at h3)
  · exact endA_eq (congrArg AV.bool (not_dec fun h => by have := h.parts; omega)) (by simp)
  refine guardK_cases (fun h4 => ?_) (fun h4 => ?_) <;> simp [h4] <;> (try simp at h4)
  · exact endA_eq (congrArg AV.bool (not_dec fun h => by have := h.belt; omega)) (by simp)
  refine condK_cases (fun h5 => ?_) (fun h5 => ?_) <;> simp [h5] <;> (try simp at h5)
  · exact endA_eq (congrArg AV.bool (not_dec fun h => by have := h.zones; omega)) (by simp)
  refine wpc_loop0 (fun i : Nat => [(2, .any), (35, .any), (36, .any), (37, .any), (38, .any), (39, .any), (40, .any), (41, .any), (42, .any), (43, .any), (44, .any), (45, .any), (46, .any), (47, .any), (48, .any), (3, .int .i64 i)]) (fun i => c.fix.length - i) (fun i => i ≤ c.fix.length ∧ ∀ j < i, (fat c.fix j).length ≤ 20) 0 (by simp) ?_ ?_
  · simp
    (repeat' first | exact AVsle.nil | refine AVsle.cons (AVle.any _) ?_ | refine AVsle.cons (AVle.refl _) ?_ | refine AVsle.cons AVLe.le ?_)
  rintro i r ⟨hi, hm⟩
  simp
  refine condK_cases (fun h => ?_) (fun h => ?_) <;> simp [h] <;> (try simp at h)
  · have hg := fcs_get h
    have w : IntKind.wrap .i64 ((i : Int) + 1) = ((i + 1 : Nat) : Int) := wrap64 (by omega) (by omega)
    simp [hg]
    refine condK_cases (fun g => ?_) (fun g => ?_) <;> simp [g] <;> (try simp at g)
    · exact endA_eq (congrArg AV.bool (not_dec fun h => by have := h.fixl i ‹_›; omega)) (by simp)
    simp [w]
    (refine loopG_normal (i + 1) (⟨by omega, next_all hm (by omega)⟩) (by omega) ?_ ?_ rfl rfl; rotate_left; exact .of_eq (by simp); simp; (repeat' first | exact AVsle.nil | refine AVsle.cons (AVle.any _) ?_ | refine AVsle.cons (AVle.refl _) ?_ | refine AVsle.cons AVLe.le ?_))
  obtain rfl : i = c.fix.length := by omega
  refine wpc_loop0 (fun i : Nat => [(2, .any), (49, .any), (50, .any), (51, .any), (52, .any), (53, .any), (54, .any), (55, .any), (56, .any), (57, .any), (58, .any), (59, .any), (60, .any), (61, .any), (62, .any), (63, .any), (4, .int .i64 i)]) (fun i => c.zones.length - i) (fun i => i ≤ c.zones.length ∧ ∀ j < i, (fat c.zones j).length ≤ 20) 0 (by simp) ?_ ?_
  · simp
    (repeat' first | exact AVsle.nil | refine AVsle.cons (AVle.any _) ?_ | refine AVsle.cons (AVle.refl _) ?_ | refine AVsle.cons AVLe.le ?_)
  rintro i r2 ⟨hi2, hm2⟩
  simp
  refine condK_cases (fun h => ?_) (fun h => ?_) <;> simp [h] <;> (try simp at h)
  · have hg := fcs_get h
    have w : IntKind.wrap .i64 ((i : Int) + 1) = ((i + 1 : Nat) : Int) := wrap64 (by omega) (by omega)
    simp [hg]
    refine condK_cases (fun g => ?_) (fun g => ?_) <;> simp [g] <;> (try simp at g)
    · exact endA_eq (congrArg AV.bool (not_dec fun h => by have := h.zonesl i ‹_›; omega)) (by simp)
    simp [w]
    (refine loopG_normal (i + 1) (⟨by omega, next_all hm2 (by omega)⟩) (by omega) ?_ ?_ rfl rfl; rotate_left; exact .of_eq (by simp); simp; (repeat' first | exact AVsle.nil | refine AVsle.cons (AVle.any _) ?_ | refine AVsle.cons (AVle.refl _) ?_ | refine AVsle.cons AVLe.le ?_))
  obtain rfl : i = c.zones.length := by omega
  refine wpc_loop0 (fun i : Nat => [(2, .any), (64, .any), (65, .any), (66, .any), (67, .any), (68, .any), (69, .any), (70, .any), (71, .any), (72, .any), (73, .any), (74, .any), (75, .any), (76, .any), (77, .any), (78, .any), (79, .any), (80, .any), (81, .any), (82, .any), (83, .any), (84, .any), (85, .any), (86, .any), (87, .any), (88, .any), (5, .int .i64 i)]) (fun i => c.parts.length - i) (fun i => i ≤ c.parts.length ∧ ∀ j < i, (ptat c.parts j).shape.length ≤ 20 ∧ (ptat c.parts j).name.size ≤ 100) 0 (by simp) ?_ ?_
  · simp
    (repeat' first | exact AVsle.nil | refine AVsle.cons (AVle.any _) ?_ | refine AVsle.cons (AVle.refl _) ?_ | refine AVsle.cons AVLe.le ?_)
  rintro i r3 ⟨hi3, hm3⟩
  simp
  refine condK_cases (fun h => ?_) (fun h => ?_) <;> simp [h] <;> (try simp at h)
  · have hg := ptcs_get h
    have w : IntKind.wrap .i64 ((i : Int) + 1) = ((i + 1 : Nat) : Int) := wrap64 (by omega) (by omega)
    simp [hg]
    refine guardK_cases (fun g => ?_) (fun g => ?_) <;> simp [g, hg] <;> (try simp at g)
    · exact endA_eq (congrArg AV.bool (not_dec fun h => by have := h.partsl i ‹_›; omega)) (by simp)
    refine condK_cases (fun g2 => ?_) (fun g2 => ?_) <;> simp [g2] <;> (try simp at g2)
    · exact endA_eq (congrArg AV.bool (not_dec fun h => by have := h.partsl i ‹_›; omega)) (by simp)
    simp [w]
    (refine loopG_normal (i + 1) (⟨by omega, next_all hm3 ⟨by omega, by omega⟩⟩) (by omega) ?_ ?_ rfl rfl; rotate_left; exact .of_eq (by simp); simp; (repeat' first | exact AVsle.nil | refine AVsle.cons (AVle.any _) ?_ | refine AVsle.cons (AVle.refl _) ?_ | refine AVsle.cons AVLe.le ?_))
  obtain rfl : i = c.parts.length := by omega
  refine wpc_loop0 (fun i : Nat => [(2, .any), (89, .any), (90, .any), (91, .any), (92, .any), (93, .any), (94, .any), (95, .any), (96, .any), (97, .any), (98, .any), (99, .any), (100, .any), (101, .any), (102, .any), (103, .any), (6, .int .i64 i)]) (fun i => c.places.length - i) (fun i => i ≤ c.places.length ∧ ∀ j < i, (plat c.places j).name.size ≤ 100) 0 (by simp) ?_ ?_
  · simp
    (repeat' first | exact AVsle.nil | refine AVsle.cons (AVle.any _) ?_ | refine AVsle.cons (AVle.refl _) ?_ | refine AVsle.cons AVLe.le ?_)
  rintro i r4 ⟨hi4, hm4⟩
  simp
  refine condK_cases (fun h => ?_) (fun h => ?_) <;> simp [h] <;> (try simp at h)
  · have hg := plcs_get h
    have w : IntKind.wrap .i64 ((i : Int) + 1) = ((i + 1 : Nat) : Int) := wrap64 (by omega) (by omega)
    simp [hg]
    refine condK_cases (fun g => ?_) (fun g => ?_) <;> simp [g] <;> (try simp at g)
    · exact endA_eq (congrArg AV.bool (not_dec fun h => by have := h.placesl i ‹_›; omega)) (by simp)
    simp [w]
    (refine loopG_normal (i + 1) (⟨by omega, next_all hm4 (by omega)⟩) (by omega) ?_ ?_ rfl rfl; rotate_left; exact .of_eq (by simp); simp; (repeat' first | exact AVsle.nil | refine AVsle.cons (AVle.any _) ?_ | refine AVsle.cons (AVle.refl _) ?_ | refine AVsle.cons AVLe.le ?_))
  obtain rfl : i = c.places.length := by omega
  exact endA_eq (congrArg AV.bool (dec_not (p := SmallC c) ⟨by omega, by omega, by omega, by omega, by omega, hm, hm2, hm3, hm4⟩)) (by simp)
end Go.Proofs
