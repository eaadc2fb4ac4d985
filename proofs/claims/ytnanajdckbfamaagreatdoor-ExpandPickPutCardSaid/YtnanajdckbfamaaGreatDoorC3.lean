/- Walks of the reference's checks on places, parts and cells; the first state. -/
import Derived.Test.YtnanajdckbfamaaGreatDoorC2
import Derived.Test.YtnanajdckbfamaaGreatDoorMD
set_option linter.unusedVariables false
set_option linter.unusedSimpArgs false
set_option maxRecDepth 100000
namespace Go.Proofs
open Go Go.Abs
attribute [local irreducible] wpc aSeq awAny endA guardK condK CallK callT aPlan onlyL takeL aeffK takeE loopG bodyA thenA inBlockA planK roundG assignG bodyI endI YieldK unrollG
def placeOkP (p : Pc) : Prop := (p.pos.1 % 16 = 0 ∧ p.pos.2 % 16 = 0) ∧ ((-373490000 ≤ p.pos.1 ∧ p.pos.1 ≤ 373490000) ∧ -373490000 ≤ p.pos.2 ∧ p.pos.2 ≤ 373490000) ∧ p.dir.n = 3 ∧ valid p.dir = true
instance (p : Pc) : Decidable (placeOkP p) := by unfold placeOkP; exact inferInstance
def placesP (l : List Pc) : Prop := (∀ i < l.length, placeOkP (plat l i)) ∧ l.length ≤ 16 ∧ namesB (l.map Pc.name) = true
instance (l : List Pc) : Decidable (placesP l) := by unfold placesP; exact inferInstance
def placesB (l : List Pc) : Bool := decide (placesP l)
@[simp] theorem w64_m373 : IntKind.wrap .i64 (-373490000) = -373490000 := by decide
theorem sat_map {α : Type} (l : List α) (f : α → ByteArray) (i : Nat) : sat (l.map f) i = match l[i]? with | some x => f x | none => ⟨#[]⟩ := by
  simp only [sat, List.getD, List.getElem?_map]; cases l[i]? <;> rfl
/-- The names of the first places. -/
def pnm (l : List Pc) (i : Nat) : List (List AV) := scs ((l.take i).map Pc.name)
theorem pnm_zero (l : List Pc) : pnm l 0 = [] := by simp [pnm, scs]
theorem pnm_succ {l : List Pc} {i : Nat} (h : i < l.length) : pnm l (i + 1) = pnm l i ++ [[.str (plat l i).name]] := by unfold pnm; rw [take_snoc p0 h]; simp [scs, plat]
@[simp] theorem pnm_length (l : List Pc) (i : Nat) : (pnm l i).length = min i l.length := by simp [pnm]
theorem pnm_all (l : List Pc) : pnm l l.length = scs (l.map Pc.name) := by simp [pnm]
theorem places9_pure (l : List Pc) (hl : l.length ≤ 1000000) (hs : ∀ p ∈ l, p.name.size ≤ 1000000) : Pure Tryz.prog 45 [.sl 6 (plcs l) .unk] (.bool (placesB l)) := by
  have hsz : ∀ i, (sat (l.map Pc.name) i).size ≤ 1000000000 := fun i => by
    rw [sat_map]
    cases h : l[i]? with
    | none => show (0 : Nat) ≤ _; omega
    | some p => exact Nat.le_trans (hs p (List.mem_of_getElem? h)) (by omega)
  refine pure_val fun σ ns _ => ?_; refine acalls_of_wpc Tryz.mixed Tryz.dr45 Tryz.func45 rfl (Tryz.fit45 _ rfl) Tryz.en45 (fun hσ => ?_); simp [Tryz.ntmps45]
  refine wpc_loopGr (fun x : Nat × Option Nm => [(2, .any), (5, .any), (6, .any), (7, .any), (8, .any), (9, .any), (10, .any), (11, .any), (12, .any), (13, .any), (14, .any), (15, .any), (16, .any), (17, .any), (18, .any), (19, .any), (20, .any), (21, .any), (22, .any), (23, .any), (24, .any), (25, .any), (26, .any), (27, .any), (28, .any), (29, .any), (30, .any), (31, .any), (32, .any), (33, .any), (34, .any), (35, .any), (36, .any), (37, .any), (38, .any), (39, .any), (40, .any), (41, .any), (42, .any), (43, .any), (44, .any), (45, .any), (46, .any), (47, .any), (48, .any), (49, .any), (50, .any), (51, .any), (52, .any), (53, .any), (54, .any), (55, .any), (56, .any), (57, .any), (58, .any), (59, .any), (60, .any), (61, .any), (62, .any), (63, .any), (64, .any), (3, gv 1 x.2 (pnm l x.1)), (4, .int .i64 x.1)]) (fun x => x.2) (fun x => pnm l x.1) (fun x => l.length - x.1) (fun x => x.1 ≤ l.length ∧ ∀ j < x.1, placeOkP (plat l j)) (0, none) rfl (pnm_zero l) (by simp) ?_ ?_
  · simp [gv_none]
    (repeat' first | exact AVsle.nil | refine AVsle.cons (AVle.any _) ?_ | refine AVsle.cons (AVle.refl _) ?_ | refine AVsle.cons AVLe.le ?_)
  rintro ⟨i, t⟩ r ⟨hi, hm⟩ hok hfr hne
  dsimp only at hi hok hne hm
  simp [hne]
  refine condK_cases (fun h => ?_) (fun h => ?_) <;> simp [h] <;> (try simp at h)
  · have hg := plcs_get h
    have w : IntKind.wrap .i64 ((i : Int) + 1) = ((i + 1 : Nat) : Int) := wrap64 (by omega) (by omega)
    have hsn := pnm_succ h
    have hlen : (min i l.length + 1) * 16 ≤ 140737488355328 := by omega
    have bad : ¬ placeOkP (plat l i) → false = placesB l := fun hb => (decide_eq_false fun hh => hb (hh.1 i h)).symm
    have good : placeOkP (plat l i) → ∀ j < i + 1, placeOkP (plat l j) := fun hp => next_all hm hp
    generalize plat l i = p at *
    have hr : ¬ t = some ((((ns.sub 3).sub r).sub 1).sub 4) := hne _ (.inl (by simp [Nm.under]))
    simp (maxDischargeDepth := 6) [hg, hr, hne, hok.gnil, w, hlen]
    refine guardK_cases (fun h1 => ?_) (fun h1 => ?_) <;> simp [h1, hne] <;> (try simp [tmod16] at h1)
    · refine endA_eq (congrArg AV.bool (bad fun hb => ?_)) ?_
      · have := hb.1; omega
      · simp [restoreS_gdel hok.own, restoreS_gs hok.own]
    refine guardK_cases (fun h2 => ?_) (fun h2 => ?_) <;> simp [h2, hne] <;> (try simp [tmod16] at h2)
    · refine endA_eq (congrArg AV.bool (bad fun hb => ?_)) ?_
      · have := hb.1; omega
      · simp [restoreS_gdel hok.own, restoreS_gs hok.own]
    refine guardK_cases (fun h3 => ?_) (fun h3 => ?_) <;> simp [h3, hne] <;> (try simp at h3)
    · refine endA_eq (congrArg AV.bool (bad fun hb => ?_)) ?_
      · have := hb.2.1; omega
      · simp [restoreS_gdel hok.own, restoreS_gs hok.own]
    refine guardK_cases (fun h4 => ?_) (fun h4 => ?_) <;> simp [h4, hne] <;> (try simp at h4)
    · refine endA_eq (congrArg AV.bool (bad fun hb => ?_)) ?_
      · have := hb.2.1; omega
      · simp [restoreS_gdel hok.own, restoreS_gs hok.own]
    refine guardK_cases (fun h5 => ?_) (fun h5 => ?_) <;> simp [h5, hne] <;> (try simp at h5)
    · refine endA_eq (congrArg AV.bool (bad fun hb => ?_)) ?_
      · have := hb.2.2.1; omega
      · simp [restoreS_gdel hok.own, restoreS_gs hok.own]
    first | refine Pure.use_le (Right_pure p.dir) ?_ | refine callT_le (Right_pure p.dir) ?_
    simp
    refine condK_cases (fun h6 => ?_) (fun h6 => ?_) <;> simp [h6, hne] <;> (try simp at h6)
    · refine endA_eq (congrArg AV.bool (bad fun hb => ?_)) ?_
      · have := hb.2.2.2; simp [h6] at this
      · simp [restoreS_gdel hok.own, restoreS_gs hok.own]
    simp [w]
    refine loopG_normal (i + 1, some ((((ns.sub 3).sub r).sub 2).sub 4)) ⟨⟨by simp only; omega, good ⟨⟨by omega, by omega⟩, by omega, h5, h6⟩⟩, gok_some (by simp [Nm.under]) (hfr _ (by simp [Nm.under]))⟩ (by simp only; omega) ?_ ?_ rfl rfl
    · simp only [hsn]
      simp
      (repeat' first | exact AVsle.nil | refine AVsle.cons (AVle.any _) ?_ | refine AVsle.cons (AVle.refl _) ?_ | refine AVsle.cons AVLe.le ?_)
    · ((try (dsimp only)); refine StWk.weak (StWk.grow ?_ ?_); rotate_left; (intro m hm; cases hm; simp); (repeat' first | exact StWk.refl _ | refine StWk.own_up ?_ (by first | exact hfr _ (by simp [Nm.under]) | simp [hfr]) | refine StWk.own_gdel ?_ hok.fresh | refine StWk.own_gs ?_ hok.fresh))
  · obtain rfl : i = l.length := by omega
    simp [hne]
    rw [pnm_all] at hok ⊢
    have fin : restoreS ns [] σ (gs σ t) = σ := by rw [restoreS_gs hok.own]; simp
    refine guardK_cases (fun h1 => ?_) (fun h1 => ?_) <;> simp [h1, hne] <;> (try simp at h1)
    · refine Pure.use ((names9_pure (l.map Pc.name) (by simp; omega) hsz).weaken (.cons hok.le .nil)) ?_
      simp
      refine endA_eq (congrArg AV.bool ?_) fin
      refine Bool.eq_iff_iff.2 ?_
      rw [placesB, decide_eq_true_iff]
      exact ⟨fun g => ⟨hm, by omega, g⟩, fun g => g.2.2⟩
    · exact endA_eq (congrArg AV.bool (decide_eq_false fun h => by have := h.2.1; omega).symm) fin
def partsP (l : List Pt) (n : Int) : Prop := (∀ i < l.length, shapeB (ptat l i).shape = true) ∧ l.length ≤ 8 ∧ namesB (l.map Pt.name) = true ∧ unlikeB (l.map Pt.place) n = true
instance (l : List Pt) (n : Int) : Decidable (partsP l n) := by unfold partsP; exact inferInstance
def partsB (l : List Pt) (n : Int) : Bool := decide (partsP l n)
def tnm (l : List Pt) (i : Nat) : List (List AV) := scs ((l.take i).map Pt.name)
theorem tnm_zero (l : List Pt) : tnm l 0 = [] := by simp [tnm, scs]
theorem tnm_succ {l : List Pt} {i : Nat} (h : i < l.length) : tnm l (i + 1) = tnm l i ++ [[.str (ptat l i).name]] := by unfold tnm; rw [take_snoc t0 h]; simp [scs, ptat]
@[simp] theorem tnm_length (l : List Pt) (i : Nat) : (tnm l i).length = min i l.length := by simp [tnm]
theorem tnm_all (l : List Pt) : tnm l l.length = scs (l.map Pt.name) := by simp [tnm]
def tpl (l : List Pt) (i : Nat) : List (List AV) := ics ((l.take i).map Pt.place)
theorem tpl_zero (l : List Pt) : tpl l 0 = [] := by simp [tpl, ics]
theorem tpl_succ {l : List Pt} {i : Nat} (h : i < l.length) : tpl l (i + 1) = tpl l i ++ [[.int .i64 (ptat l i).place]] := by unfold tpl; rw [take_snoc t0 h]; simp [ics, ptat]
@[simp] theorem tpl_length (l : List Pt) (i : Nat) : (tpl l i).length = min i l.length := by simp [tpl]
theorem tpl_all (l : List Pt) : tpl l l.length = ics (l.map Pt.place) := by simp [tpl]
theorem tokAt_two {σ : Store} {a b : Option Nm} (h : ∀ m, a = some m → ¬ b = some m) : TokAt (gs (gs σ a) b) a := fun m hm => by rw [gs_get (h m hm)]; exact gs_tok hm
theorem parts9_pure (l : List Pt) (n : Int) (hl : l.length ≤ 1000000) (hs : ∀ p ∈ l, p.name.size ≤ 1000000 ∧ p.shape.length ≤ 1000000) : Pure Tryz.prog 46 [.sl 3 (ptcs l) .unk, .int .i64 n] (.bool (partsB l n)) := by
  have hsz : ∀ i, (sat (l.map Pt.name) i).size ≤ 1000000000 := fun i => by
    rw [sat_map]
    cases h : l[i]? with
    | none => show (0 : Nat) ≤ _; omega
    | some p => exact Nat.le_trans (hs p (List.mem_of_getElem? h)).1 (by omega)
  have hsh : ∀ i, (ptat l i).shape.length ≤ 1000000 := fun i => by
    unfold ptat
    simp only [List.getD]
    cases h : l[i]? with
    | none => show (0 : Nat) ≤ _; omega
    | some p => exact (hs p (List.mem_of_getElem? h)).2
  refine pure_val fun σ ns _ => ?_; refine acalls_of_wpc Tryz.mixed Tryz.dr46 Tryz.func46 rfl (Tryz.fit46 _ rfl) Tryz.en46 (fun hσ => ?_); simp [Tryz.ntmps46]
  refine wpc_loopN (fun x : Nat × Option Nm × Option Nm => [(4, .any), (8, .any), (9, .any), (10, .any), (11, .any), (12, .any), (13, .any), (14, .any), (15, .any), (16, .any), (17, .any), (18, .any), (19, .any), (20, .any), (21, .any), (22, .any), (23, .any), (24, .any), (25, .any), (26, .any), (27, .any), (28, .any), (29, .any), (30, .any), (31, .any), (32, .any), (33, .any), (34, .any), (35, .any), (36, .any), (5, gv 1 x.2.1 (tnm l x.1)), (6, gv 1 x.2.2 (tpl l x.1)), (7, .int .i64 x.1)]) (fun x => gs (gs σ x.2.1) x.2.2) (fun x => l.length - x.1)
    (fun x => (x.1 ≤ l.length ∧ ∀ j < x.1, shapeB (ptat l j).shape = true) ∧ Abs.gok ns σ x.2.1 (tnm l x.1) ∧ Abs.gok ns σ x.2.2 (tpl l x.1) ∧ ∀ m, x.2.1 = some m → ¬ x.2.2 = some m) (0, none, none) ⟨by simp, tnm_zero l, tpl_zero l, by simp⟩ ?_ (.refl _) ?_
  · simp [gv_none]
    (repeat' first | exact AVsle.nil | refine AVsle.cons (AVle.any _) ?_ | refine AVsle.cons (AVle.refl _) ?_ | refine AVsle.cons AVLe.le ?_)
  rintro ⟨i, t1, t2⟩ r ⟨⟨hi, hm⟩, ok1, ok2, h12⟩ hn
  dsimp only at hi hm ok1 ok2 h12 hn
  simp
  refine condK_cases (fun h => ?_) (fun h => ?_) <;> simp [h] <;> (try simp at h)
  · have hg := ptcs_get h
    have w : IntKind.wrap .i64 ((i : Int) + 1) = ((i + 1 : Nat) : Int) := wrap64 (by omega) (by omega)
    have s1 := tnm_succ h
    have s2 := tpl_succ h
    have hlen : (min i l.length + 1) * 16 ≤ 140737488355328 := by omega
    have hlen2 : (min i l.length + 1) * 8 ≤ 140737488355328 := by omega
    have bad : ¬ shapeB (ptat l i).shape = true → false = partsB l n := fun hb => (decide_eq_false fun hh => hb (hh.1 i h)).symm
    have good : shapeB (ptat l i).shape = true → ∀ j < i + 1, shapeB (ptat l j).shape = true := fun hp => next_all hm hp
    have hsi := hsh i
    generalize ptat l i = p at *
    have n2 : ∀ x, x.under ((ns.sub 4).sub r) = true → ¬ t2 = some x := gs_new hn
    have n1' : ∀ x, x.under ((ns.sub 4).sub r) = true → gs σ t1 x = none := gs_new' hn
    have n1 : ∀ x, x.under ((ns.sub 4).sub r) = true → ¬ t1 = some x := gs_new n1'
    have n0 : ∀ x, x.under ((ns.sub 4).sub r) = true → σ x = none := gs_new' n1'
    have k1 : TokAt (gs (gs σ t1) t2) t1 := tokAt_two h12
    have k2 : TokAt ((gdel (gs (gs σ t1) t2) t1).up ((((ns.sub 4).sub r).sub 1).sub 7) .tok) t2 := fun m hm => by
      rw [Store.up_get, if_neg (fun e => n2 ((((ns.sub 4).sub r).sub 1).sub 7) (by simp [Nm.under]) (by rw [hm, e])), gdel_get (fun e => h12 m e hm)]
      exact gs_tok hm
    simp [hg, ok1.gnil, ok2.gnil, hlen, hlen2, k1, k2]
    first | refine Pure.use_le (shape9_pure p.shape hsi) ?_ | refine callT_le (shape9_pure p.shape hsi) ?_
    simp
    refine condK_cases (fun h1 => ?_) (fun h1 => ?_) <;> simp [h1] <;> (try simp at h1)
    · refine endA_eq (congrArg AV.bool (bad (by simp [h1]))) ?_
      rw [restoreS_up_own (by simp [Nm.under]), restoreS_gdel ok2.own, restoreS_up_own (by simp [Nm.under]), restoreS_gdel ok1.own, restoreS_gs ok2.own, restoreS_gs ok1.own]
      simp
    simp [w]
    refine loopG_normal (i + 1, some ((((ns.sub 4).sub r).sub 1).sub 7), some ((((ns.sub 4).sub r).sub 2).sub 7)) ⟨⟨by simp only; omega, good h1⟩, gok_some (by simp [Nm.under]) (n0 _ (by simp [Nm.under])), gok_some (by simp [Nm.under]) (n0 _ (by simp [Nm.under])), by simp⟩ (by simp only; omega) ?_ ?_ rfl rfl
    · simp only [s1, s2]
      simp
      (repeat' first | exact AVsle.nil | refine AVsle.cons (AVle.any _) ?_ | refine AVsle.cons (AVle.refl _) ?_ | refine AVsle.cons AVLe.le ?_)
    · dsimp only
      refine StWk.weak (StWk.grow (StWk.grow (StWk.base hσ fun x hx => ?_) ?_) ?_)
      · rw [up_other (ns := ns) (by simp [Nm.under]) hx, gdel_other (ns := ns) ok2.own hx, up_other (ns := ns) (by simp [Nm.under]) hx, gdel_other (ns := ns) ok1.own hx, gs_other (ns := ns) ok2.own hx, gs_other (ns := ns) ok1.own hx]
      · intro m hm
        cases hm
        rw [Store.up_get, if_neg (by simp), gdel_get (n2 _ (by simp [Nm.under])), Store.up_same]
      · intro m hm; cases hm; simp
  · obtain rfl : i = l.length := by omega
    rw [tnm_all] at ok1 ⊢
    rw [tpl_all] at ok2 ⊢
    have fin : restoreS ns [] σ (gs (gs σ t1) t2) = σ := by rw [restoreS_gs ok2.own, restoreS_gs ok1.own]; simp
    refine guardK_cases (fun h1 => ?_) (fun h1 => ?_) <;> simp [h1] <;> (try simp at h1)
    · refine Pure.use ((names9_pure (l.map Pt.name) (by simp; omega) hsz).weaken (.cons ok1.le .nil)) ?_
      simp
      refine guardK_cases (fun h2 => ?_) (fun h2 => ?_) <;> simp [h2] <;> (try simp at h2)
      · refine Pure.use ((unlike9_pure (l.map Pt.place) n (by simp; omega)).weaken (.cons ok2.le (.cons (.refl _) .nil))) ?_
        simp
        refine endA_eq (congrArg AV.bool ?_) fin
        refine Bool.eq_iff_iff.2 ?_
        rw [partsB, decide_eq_true_iff]
        exact ⟨fun g => ⟨hm, by omega, h2, g⟩, fun g => g.2.2.2⟩
      · exact endA_eq (congrArg AV.bool (decide_eq_false fun h => by have := h.2.2.1; simp [h2] at this).symm) fin
    · exact endA_eq (congrArg AV.bool (decide_eq_false fun h => by have := h.2.1; omega).symm) fin
/-- A valid cell. -/
def nearA (a : Ar) : Prop := (-3515200000 ≤ 8 * a.base.1 - 39546000 * (a.lens.a + a.lens.b + a.lens.c + 15) ∧ 8 * a.base.1 + 39546000 * (a.lens.a + a.lens.b + a.lens.c + 15) ≤ 3515200000) ∧
  -3515200000 ≤ 8 * a.base.2 - 39546000 * (a.lens.a + a.lens.b + a.lens.c + 15) ∧ 8 * a.base.2 + 39546000 * (a.lens.a + a.lens.b + a.lens.c + 15) ≤ 3515200000
instance (a : Ar) : Decidable (nearA a) := by unfold nearA; exact inferInstance
def limOk (l : J3) : Prop := (1 ≤ l.a ∧ l.a ≤ 8) ∧ (1 ≤ l.b ∧ l.b ≤ 4) ∧ 1 ≤ l.c ∧ l.c ≤ 2
instance (l : J3) : Decidable (limOk l) := by unfold limOk; exact inferInstance
structure RightC (c : Ce) : Prop where
  arm0 : right c.a0 = true
  fit0 : fits c.a0 c.h0 = true
  near0 : nearA c.a0
  arm1 : right c.a1 = true
  fit1 : fits c.a1 c.h1 = true
  near1 : nearA c.a1
  belt : c.belt.length ≤ 16
  fix : polysB c.fix = true
  zones : polysB c.zones = true
  places : placesB c.places = true
  parts : partsB c.parts c.places.length = true
  beltU : unlikeB c.belt c.places.length = true
  period : 0 ≤ c.period ∧ c.period ≤ 100
  lim : limOk c.lim
  loaded : limOk c.loaded
  below : c.loaded.a ≤ c.lim.a ∧ c.loaded.b ≤ c.lim.b ∧ c.loaded.c ≤ c.lim.c
  gap : 0 ≤ c.gap ∧ c.gap ≤ 20
  slow : 1 ≤ c.slow ∧ c.slow ≤ 8
theorem rightC_iff (c : Ce) : RightC c ↔ (right c.a0 = true ∧ fits c.a0 c.h0 = true ∧ nearA c.a0 ∧ right c.a1 = true ∧ fits c.a1 c.h1 = true ∧ nearA c.a1 ∧ c.belt.length ≤ 16 ∧ polysB c.fix = true ∧ polysB c.zones = true ∧ placesB c.places = true ∧ partsB c.parts c.places.length = true ∧ unlikeB c.belt c.places.length = true ∧
    (0 ≤ c.period ∧ c.period ≤ 100) ∧ limOk c.lim ∧ limOk c.loaded ∧ (c.loaded.a ≤ c.lim.a ∧ c.loaded.b ≤ c.lim.b ∧ c.loaded.c ≤ c.lim.c) ∧ (0 ≤ c.gap ∧ c.gap ≤ 20) ∧ 1 ≤ c.slow ∧ c.slow ≤ 8) :=
  ⟨fun ⟨a, b, d, e, f, g, h, i, j, k, l, m, n, o, p, q, r, s⟩ => ⟨a, b, d, e, f, g, h, i, j, k, l, m, n, o, p, q, r, s⟩, fun ⟨a, b, d, e, f, g, h, i, j, k, l, m, n, o, p, q, r, s⟩ => ⟨a, b, d, e, f, g, h, i, j, k, l, m, n, o, p, q, r, s⟩⟩
instance (c : Ce) : Decidable (RightC c) := decidable_of_iff _ (rightC_iff c).symm
def rightC (c : Ce) : Bool := decide (RightC c)
/-- Sizes that no machine passes. -/
structure CeB (c : Ce) : Prop where
  fix : c.fix.length ≤ 1000000
  fixl : ∀ i, (fat c.fix i).length ≤ 1000000
  zones : c.zones.length ≤ 1000000
  zonesl : ∀ i, (fat c.zones i).length ≤ 1000000
  places : c.places.length ≤ 1000000
  pnames : ∀ p ∈ c.places, p.name.size ≤ 1000000
  parts : c.parts.length ≤ 1000000
  tsizes : ∀ p ∈ c.parts, p.name.size ≤ 1000000 ∧ p.shape.length ≤ 1000000
  belt : c.belt.length ≤ 1000000
end Go.Proofs
