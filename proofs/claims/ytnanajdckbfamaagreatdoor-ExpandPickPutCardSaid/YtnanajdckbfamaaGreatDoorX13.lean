/- Expansion: walks of the reference's small functions. -/
import Derived.Test.YtnanajdckbfamaaGreatDoorX12
import Derived.Test.YtnanajdckbfamaaGreatDoorME
set_option linter.unusedVariables false
set_option linter.unusedSimpArgs false
set_option maxRecDepth 100000
namespace Go.Proofs
open Go Go.Abs
attribute [local irreducible] wpc aSeq awAny endA guardK condK CallK callT aPlan onlyL takeL aeffK takeE loopG bodyA thenA inBlockA planK roundG assignG bodyI endI YieldK unrollG endP
theorem Same13_pure (a b : Ws) (ha : a.wher.length ≤ 1000000000) : Pure Tryz.prog 17 [a.av, b.av] (.bool (sameW a b)) := by
  refine pure_val fun σ ns _ => ?_; refine acalls_of_wpc Tryz.mixed Tryz.dr17 Tryz.func17 rfl (Tryz.fit17 _ rfl) Tryz.en17 (fun hσ => ?_); simp [Tryz.ntmps17]
  first | refine Pure.use_le (SameWorld9_pure a b ha) ?_ | refine callT_le (SameWorld9_pure a b ha) ?_
  simp
  exact endA_eq rfl (by simp)
theorem aeqQ7 (x0 x1 y0 y1 : J3) : aeqElems Tryz.prog 7 25 3 [.int .i64 x0.a, .int .i64 x0.b, .int .i64 x0.c, .int .i64 x1.a, .int .i64 x1.b, .int .i64 x1.c] [.int .i64 y0.a, .int .i64 y0.b, .int .i64 y0.c, .int .i64 y1.a, .int .i64 y1.b, .int .i64 y1.c] (List.range 2) = some (decide (x0 = y0 ∧ x1 = y1)) := by
  have e : ∀ x y : J3, aeqElems Tryz.prog 6 3 1 [.int .i64 x.a, .int .i64 x.b, .int .i64 x.c] [.int .i64 y.a, .int .i64 y.b, .int .i64 y.c] (List.range 3) = some (decide (x = y)) := fun x y => by
    obtain ⟨a, b, c⟩ := x; obtain ⟨d, e, f⟩ := y
    simp [aeqElems, apart, aeq, show List.range 3 = [0, 1, 2] from rfl]
    rw [Bool.eq_iff_iff]; simp
  have e1 := e x0 y0
  have e2 := e x1 y1
  simp [aeqElems, apart, aeq, show List.range 2 = [0, 1] from rfl, e1, e2]
theorem Sp.eq_iff (x y : Sp) : x = y ↔ x.kind = y.kind ∧ x.arm = y.arm ∧ x.part = y.part ∧ x.place = y.place ∧ x.n = y.n ∧ x.to0 = y.to0 ∧ x.to1 = y.to1 := by cases x; cases y; simp
def s0 : Sp := ⟨0, 0, 0, 0, 0, j0', j0'⟩
def spat (l : List Sp) (i : Nat) : Sp := l.getD i s0
theorem spcs_get {l : List Sp} {i : Nat} (h : i < l.length) : (spcs l)[i]? = some (spat l i).cells := by simp [spcs, spat, h]
theorem spat_get {l : List Sp} {i : Nat} (h : i < l.length) : l[i]? = some (spat l i) := by simp [spat, h]
theorem SameSteps13_pure (a b : List Sp) (ha : a.length ≤ 1000000000) : Pure Tryz.prog 15 [.sl 11 (spcs a) .unk, .sl 11 (spcs b) .unk] (.bool (decide (a = b))) := by
  refine pure_val fun σ ns _ => ?_; refine acalls_of_wpc Tryz.mixed Tryz.dr15 Tryz.func15 rfl (Tryz.fit15 _ rfl) Tryz.en15 (fun hσ => ?_); simp [Tryz.ntmps15]
  refine condK_cases (fun h1 => ?_) (fun h1 => ?_) <;> simp [h1] <;> (try simp at h1)
  · exact endA_eq (congrArg AV.bool (decide_eq_false fun h => by rw [h] at h1; simp at h1).symm) (by simp)
  refine wpc_loop0 (fun i : Nat => [(4, .any), (11, .any), (12, .any), (13, .any), (14, .any), (15, .any), (16, .any), (17, .any), (18, .any), (19, .any), (20, .any), (21, .any), (22, .any), (23, .any), (24, .any), (25, .any), (5, .int .i64 i)]) (fun i => a.length - i) (fun i => i ≤ a.length ∧ ∀ j < i, spat a j = spat b j) 0 (by simp) ?_ ?_
  · simp
    (repeat' first | exact AVsle.nil | refine AVsle.cons (AVle.any _) ?_ | refine AVsle.cons (AVle.refl _) ?_ | refine AVsle.cons AVLe.le ?_)
  rintro i r ⟨hi, hm⟩
  simp
  refine condK_cases (fun h => ?_) (fun h => ?_) <;> simp [h] <;> (try simp at h)
  · have hg := spcs_get h
    have hg' := spcs_get (l := b) (i := i) (by omega)
    have hx := spat_get h
    have hx' := spat_get (l := b) (i := i) (by omega)
    have w : IntKind.wrap .i64 ((i : Int) + 1) = ((i + 1 : Nat) : Int) := wrap64 (by omega) (by omega)
    have hn : (∀ j < i + 1, spat a j = spat b j) ↔ spat a i = spat b i := ⟨fun h => h i (by omega), fun h => next_all hm h⟩
    generalize hxa : spat a i = x at *
    generalize hxb : spat b i = y at *
    simp [hg, hg', aeqQ7]
    have he : (!x.kind == y.kind || (!x.arm == y.arm || (!x.part == y.part || (!x.place == y.place || (!x.n == y.n || (!decide (x.to0 = y.to0) || !decide (x.to1 = y.to1))))))) = !decide (x = y) := by
      refine Bool.eq_iff_iff.2 ?_
      simp only [Sp.eq_iff x y]
      simp [← Bool.not_eq_true]
    rw [he]
    refine condK_cases (fun h4 => ?_) (fun h4 => ?_) <;> simp [h4] <;> (try simp at h4)
    · exact endA_eq (congrArg AV.bool (decide_eq_false fun h => by apply h4; rw [← hxa, ← hxb, h]).symm) (by simp)
    simp [w]
    (refine loopG_normal (i + 1) (⟨by omega, hn.2 h4⟩) (by omega) ?_ ?_ rfl rfl; rotate_left; exact .of_eq (by simp); simp; (repeat' first | exact AVsle.nil | refine AVsle.cons (AVle.any _) ?_ | refine AVsle.cons (AVle.refl _) ?_ | refine AVsle.cons AVLe.le ?_))
  · obtain rfl : i = a.length := by omega
    have heq : a = b := List.ext_getElem (by omega) fun j h1' h2' => by
      have := hm j h1'
      simpa [spat, h1', h2'] using this
    exact endA_eq (by simp [heq]) (by simp)
/-- The state behind steps. -/
def behind (c : Ce) (w : Ws) : List Sp → Ws
  | [] => w
  | s :: l => behind c (refR w (doE s w c)).1 l
theorem refR_st {w : Ws} {c : Ce} {s : Sp} (hw : StOk w c) : StOk (refR w (doE s w c)).1 c := by
  cases h : doE s w c with
  | ok w' => exact doE_ok hw h
  | error k => exact hw
theorem behind_st {c : Ce} : ∀ {l : List Sp} {w : Ws}, StOk w c → StOk (behind c w l) c
  | [], w, h => h
  | s :: l, w, h => behind_st (l := l) (refR_st h)
theorem behind_snoc {c : Ce} {s : Sp} : ∀ {l : List Sp} {w : Ws}, behind c w (l ++ [s]) = (refR (behind c w l) (doE s (behind c w l) c)).1
  | [], w => rfl
  | x :: l, w => behind_snoc (l := l)
theorem behind_append {c : Ce} {k : List Sp} : ∀ {l : List Sp} {w : Ws}, behind c w (l ++ k) = behind c (behind c w l) k
  | [], w => rfl
  | x :: l, w => behind_append (l := l)
theorem take_spat {l : List Sp} {i : Nat} (h : i < l.length) : l.take (i + 1) = l.take i ++ [spat l i] := take_snoc s0 h
theorem Behind13_pure (c : Ce) (w : Ws) (l : List Sp) (hp : preS w c) (hl : l.length ≤ 1000000000) : Pure Tryz.prog 18 [c.av, w.av, .sl 11 (spcs l) .unk] (behind c w l).av := by
  refine pure_val fun σ ns _ => ?_; refine acalls_of_wpc Tryz.mixed Tryz.dr18 Tryz.func18 rfl (Tryz.fit18 _ rfl) Tryz.en18 (fun hσ => ?_); simp [Tryz.ntmps18]
  refine wpc_loopV (fun i : Nat => [(8, .any), (9, .any), (10, .any), (11, .any), (12, .any), (13, .any), (14, .any), (15, .any), (16, .any), (17, .any), (18, .any), (19, .any), (20, .any), (21, .any), (22, .any), (23, .any), (24, .any), (25, .any), (26, .any), (7, .int .i64 i)]) ((ns.sub 0).sub 1) (fun i => (behind c w (l.take i)).cells) (fun i => l.length - i) (fun i => i ≤ l.length) 0 (by simp) ?_ (by simp [behind]) ?_
  · simp
    (repeat' first | exact AVsle.nil | refine AVsle.cons (AVle.any _) ?_ | refine AVsle.cons (AVle.refl _) ?_ | refine AVsle.cons AVLe.le ?_)
  rintro i r hi hfr
  simp
  refine condK_cases (fun h => ?_) (fun h => ?_) <;> simp [h] <;> (try simp at h)
  · have hg := spcs_get h
    have w1 : IntKind.wrap .i64 ((i : Int) + 1) = ((i + 1 : Nat) : Int) := wrap64 (by omega) (by omega)
    have hst := behind_st (l := l.take i) hp.1
    have hs : behind c w (l.take (i + 1)) = (refR (behind c w (l.take i)) (doE (spat l i) (behind c w (l.take i)) c)).1 := by rw [take_spat h]; exact behind_snoc
    simp [hg]
    first | refine Pure.use_le (Do13_pure (behind c w (l.take i)) c (spat l i) (hp.2.wok hst) ⟨hst.h0.1, hst.h1.1⟩) ?_ | refine callT_le (Do13_pure (behind c w (l.take i)) c (spat l i) (hp.2.wok hst) ⟨hst.h0.1, hst.h1.1⟩) ?_
    simp [w1]
    refine loopG_normal (i + 1) (by omega) (by omega) ?_ ?_ rfl rfl
    · simp
      (repeat' first | exact AVsle.nil | refine AVsle.cons (AVle.any _) ?_ | refine AVsle.cons (AVle.refl _) ?_ | refine AVsle.cons AVLe.le ?_)
    · refine StWk.weak (StWk.turn hfr (by simp [hs]) (fun m m1 m2 => ?_))
      repeat' first | rfl | rw [Store.up_get, if_neg m2] | rw [up_other (ns := (ns.sub 2).sub r) (by simp [Nm.under]) m1]
  · obtain rfl : i = l.length := by omega
    simp
    exact endA_eq rfl (by simp)
theorem gone_pure (i : Int) (hi : i = 0 ∨ i = 1) (q : J3) : Pure Tryz.prog 82 [.int .i64 i, q.av] (goStep i q).av := by
  refine pure_val fun σ ns _ => ?_; refine acalls_of_wpc Tryz.mixed Tryz.dr82 Tryz.func82 rfl (Tryz.fit82 _ rfl) Tryz.en82 (fun hσ => ?_); simp [Tryz.ntmps82]
  rcases hi with rfl | rfl <;> simp
  · exact endA_eq (by simp [goStep, j0']) (by simp)
  · exact endA_eq (by simp [goStep, j0']) (by simp)
theorem sol_all_len (a : Ar) (p : V2) (d : Dr) (h : RightP a) : (all a p d).length ≤ 100000 := by
  rw [← sol_eq]; have := sol_len p d h; omega
theorem all_fits {a : Ar} {p : V2} {d : Dr} {q : J3} (h : q ∈ all a p d) : fits a q = true := (all_mem.1 h).1
theorem reach13_pure (w : Ws) (c : Ce) (i : Int) (hi : i = 0 ∨ i = 1) (a : Nat) (ha : a < c.places.length) (hw : WOk w c) (f0 : fits c.a0 w.q0 = true) (f1 : fits c.a1 w.q1 = true) : Pure Tryz.prog 110 [c.av, w.av, .int .i64 i, .int .i64 a] (.tup [(reachM w c i a).1.av, .bool (reachM w c i a).2]) := by
  have hg := plcs_get ha
  refine pure_val fun σ ns _ => ?_; refine acalls_of_wpc Tryz.mixed Tryz.dr110 Tryz.func110 rfl (Tryz.fit110 _ rfl) Tryz.en110 (fun hσ => ?_); simp [Tryz.ntmps110]
  rcases hi with rfl | rfl
  · simp [hg]
    first | refine Pure.use_le (all_pure c.a0 (plat c.places a).pos (plat c.places a).dir hw.r0) ?_ | refine callT_le (all_pure c.a0 (plat c.places a).pos (plat c.places a).dir hw.r0) ?_
    simp
    first | refine Pure.use_le (near_pure (all c.a0 (plat c.places a).pos (plat c.places a).dir) w.q0 (sol_all_len _ _ _ hw.r0) (fun x hx => fits_small hw.r0 (all_fits hx)) (fits_small hw.r0 f0)) ?_ | refine callT_le (near_pure (all c.a0 (plat c.places a).pos (plat c.places a).dir) w.q0 (sol_all_len _ _ _ hw.r0) (fun x hx => fits_small hw.r0 (all_fits hx)) (fits_small hw.r0 f0)) ?_
    simp
    exact endA_eq (by rw [reachM, sol_eq]; rfl) (by simp)
  · simp [hg]
    first | refine Pure.use_le (all_pure c.a1 (plat c.places a).pos (plat c.places a).dir hw.r1) ?_ | refine callT_le (all_pure c.a1 (plat c.places a).pos (plat c.places a).dir hw.r1) ?_
    simp
    first | refine Pure.use_le (near_pure (all c.a1 (plat c.places a).pos (plat c.places a).dir) w.q1 (sol_all_len _ _ _ hw.r1) (fun x hx => fits_small hw.r1 (all_fits hx)) (fits_small hw.r1 f1)) ?_ | refine callT_le (near_pure (all c.a1 (plat c.places a).pos (plat c.places a).dir) w.q1 (sol_all_len _ _ _ hw.r1) (fun x hx => fits_small hw.r1 (all_fits hx)) (fits_small hw.r1 f1)) ?_
    simp
    exact endA_eq (by rw [reachM, sol_eq]; rfl) (by simp)
end Go.Proofs
