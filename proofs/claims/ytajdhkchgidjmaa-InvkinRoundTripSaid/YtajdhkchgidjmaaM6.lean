/- The walk of InvkinRotated: it returns true. -/
import Derived.Test.YtajdhkchgidjmaaM5
set_option linter.unusedVariables false
set_option linter.unusedSimpArgs false
set_option maxRecDepth 100000
namespace Go.Proofs
open Go Go.Abs
attribute [local irreducible] wpc aSeq awAny endA guardK condK CallK callT aPlan onlyL takeL aeffK takeE loopG bodyA thenA inBlockA planK roundG assignG bodyI endI YieldK unrollG
def Ar.full (a : Ar) : Ar := { a with low := ⟨-17, a.low.b, a.low.c⟩, high := ⟨18, a.high.b, a.high.c⟩ }
abbrev fullav (a : Ar) : AV := .agg [.int .i64 a.base.1, .int .i64 a.base.2, .int .i64 a.lens.a, .int .i64 a.lens.b, .int .i64 a.lens.c, .int .i64 a.wide, .int .i64 (-17), .int .i64 a.low.b, .int .i64 a.low.c, .int .i64 18, .int .i64 a.high.b, .int .i64 a.high.c]
theorem right_full (a : Ar) : Pure Try.prog 11 [fullav a] (.bool (right a.full)) := right7_pure a.full
theorem joint_full (a : Ar) (r : J3) (h : RightP a.full) (hr : rawOk r) : Pure Try.prog 17 [fullav a, rawav r] (jointOf a.full r).av := joint_pure a.full r h hr
theorem tip_full (a : Ar) (q : J3) (h : RightP a.full) : Pure Try.prog 16 [fullav a, q.av] (.tup [(pC a.full q).av, (dC q).av]) := tip_pure a.full q h
theorem solve_full (a : Ar) (p : V2) (d : Dr) (h : RightP a.full) (hd : valid d = true) (hat : -1000000000 ≤ p.1 ∧ p.1 ≤ 1000000000 ∧ -1000000000 ≤ p.2 ∧ p.2 ≤ 1000000000) : Pure Try.prog 14 [fullav a, p.av, d.av] (.sl 3 (jcs (all a.full p d)) .unk) := solve_all a.full p d h hd hat
theorem solve_turn (a : Ar) (p : V2) (d : Dr) (h : RightP a.full) (hd : valid d = true) (hat : -900000000 ≤ (turnP a.full p).1 ∧ (turnP a.full p).1 ≤ 900000000 ∧ -900000000 ≤ (turnP a.full p).2 ∧ (turnP a.full p).2 ≤ 900000000) :
    Pure Try.prog 14 [fullav a, .agg [.int .i64 (a.base.1 - (p.2 - a.base.2)), .int .i64 (a.base.2 + p.1 - a.base.1)], .agg [.int .i64 (-d.y), .int .i64 d.x, .int .i64 d.n]] (.sl 3 (jcs (all a.full (turnP a.full p) (turnD d))) .unk) := by
  have := solve_all a.full (turnP a.full p) (turnD d) h (by rw [turnD_valid]; exact hd) (by omega)
  rw [show -d.y = 0 - d.y by omega]
  exact this
theorem valid_ok {d : Dr} (h : valid d = true) : -1000000 ≤ d.y ∧ d.y ≤ 1000000 := by
  have h1 := valid_spec h
  have h2 := rad_bound d
  omega
theorem all_lens {a : Ar} (h : RightP a) (p : V2) (d : Dr) : ∀ x ∈ all a p d, -17 ≤ x.a ∧ x.a ≤ 18 := by
  intro x hx
  have := (all_spec hx).1
  have h1 := h.low
  have h2 := h.high
  omega
set_option maxHeartbeats 8000000 in
theorem law6 (a : Ar) (r : J3) (hr : rawOk r) : Pure Try.prog 6 [a.av, rawav r] (.bool true) := by
  intro σ ns; refine acalls_of_wpc Try.mixed Try.dr6 Try.func6 rfl (Try.fit6 _ rfl) Try.en6 (fun hσ => ?_); simp [Try.ntmps6]
  first | refine Pure.use_le (head8_pure) ?_ | refine callT_le (head8_pure) ?_
  simp
  first | refine Pure.use_le (right_full a) ?_ | refine callT_le (right_full a) ?_
  simp
  refine condK_cases (fun hR => ?_) (fun hR => ?_)
  · simp
    exact endA_eq (by simp) (by simp)
  simp at hR
  have hP := right_spec hR
  have hb : (-439400000 ≤ a.base.1 ∧ a.base.1 ≤ 439400000) ∧ -439400000 ≤ a.base.2 ∧ a.base.2 ≤ 439400000 := hP.base
  have htip := tip_in hR (jointOf a.full r)
  have htip2 := tip_in hR ⟨shift9 (jointOf a.full r).a, (jointOf a.full r).b, (jointOf a.full r).c⟩
  rw [pC_shift] at htip2
  simp
  first | refine Pure.use_le (joint_full a r hP hr) ?_ | refine callT_le (joint_full a r hP hr) ?_
  simp
  first | refine Pure.use_le (tip_full a (jointOf a.full r) hP) ?_ | refine callT_le (tip_full a (jointOf a.full r) hP) ?_
  have hv := (dC_valid (jointOf a.full r)).1
  generalize pC a.full (jointOf a.full r) = p at *
  generalize dC (jointOf a.full r) = e at *
  have hy := valid_ok hv
  simp
  first | refine Pure.use_le (solve_full a p e hP hv (by omega)) ?_ | refine callT_le (solve_full a p e hP hv (by omega)) ?_
  simp (disch := omega) [wrap64]
  first | refine Pure.use_le (solve_turn a p e hP hv htip2) ?_ | refine callT_le (solve_turn a p e hP hv htip2) ?_
  have hlen := all_turned_len (a := a.full) rfl rfl p e
  have hmem := fun q => all_shift_mem (a := a.full) rfl rfl (p := p) (d := e) (q := q)
  have hbd := all_lens hP p e
  have h50 := all_len a.full p e hP
  generalize all a.full p e = l at *
  generalize all a.full (turnP a.full p) (turnD e) = m at *
  simp [hlen]
  refine wpc_loop0 (fun i : Nat => [(4, .any), (12, .any), (13, .any), (14, .any), (74, .any), (75, .any), (76, .any), (77, .any), (78, .any), (79, .any), (80, .any), (81, .any), (82, .any), (83, .any), (84, .any), (85, .any), (86, .any), (87, .any), (88, .any), (89, .any), (90, .any), (91, .any), (92, .any), (93, .any), (94, .any), (95, .any), (96, .any), (97, .any), (98, .any), (99, .any),  (12, .int .i64 i)]) (fun i => l.length - i) (fun i => i ≤ l.length) 0 (by simp) ?_ ?_
  · simp
    (repeat' first | exact AVsle.nil | refine AVsle.cons (AVle.any _) ?_ | refine AVsle.cons (AVle.refl _) ?_ | refine AVsle.cons AVLe.le ?_)
  rintro i k hi
  simp
  refine condK_cases (fun h => ?_) (fun h => ?_) <;> simp at h
  · have g0 := getD_some h
    have hm := hmem _ (getD_mem h)
    have hx := hbd _ (getD_mem h)
    generalize l.getD i j0 = x at *
    have w1 : IntKind.wrap .i64 ((i : Int) + 1) = ((i + 1 : Nat) : Int) := wrap64 (by omega) (by omega)
    have w2 : IntKind.wrap .i64 (x.a + 9) = x.a + 9 := wrap64 (by omega) (by omega)
    have w3 : IntKind.wrap .i64 (x.a + 9 - 36) = x.a + 9 - 36 := wrap64 (by omega) (by omega)
    simp [jcs_get g0, w2]
    refine condK_cases (fun h2 => ?_) (fun h2 => ?_) <;> simp at h2
    · have e1 : shift9 x.a = x.a + 9 - 36 := if_pos h2
      simp [w3]
      rw [← e1]
      first | refine Pure.use_le (has_pure m ⟨shift9 x.a, x.b, x.c⟩ (by omega)) ?_ | refine callT_le (has_pure m ⟨shift9 x.a, x.b, x.c⟩ (by omega)) ?_
      simp [hm, w1]
      refine loopG_normal (i + 1) (by omega) (by omega) ?_ (.of_eq (by simp)) rfl rfl
      simp
      (repeat' first | exact AVsle.nil | refine AVsle.cons (AVle.any _) ?_ | refine AVsle.cons (AVle.refl _) ?_ | refine AVsle.cons AVLe.le ?_)
    · have e1 : shift9 x.a = x.a + 9 := if_neg (by omega)
      simp
      rw [← e1]
      first | refine Pure.use_le (has_pure m ⟨shift9 x.a, x.b, x.c⟩ (by omega)) ?_ | refine callT_le (has_pure m ⟨shift9 x.a, x.b, x.c⟩ (by omega)) ?_
      simp [hm, w1]
      refine loopG_normal (i + 1) (by omega) (by omega) ?_ (.of_eq (by simp)) rfl rfl
      simp
      (repeat' first | exact AVsle.nil | refine AVsle.cons (AVle.any _) ?_ | refine AVsle.cons (AVle.refl _) ?_ | refine AVsle.cons AVLe.le ?_)
  · simp
    exact endA_eq (by simp) (by simp)
end Go.Proofs
