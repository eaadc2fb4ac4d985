/- The walk of RotationOffsetLength: it returns true. -/
import Derived.Test.YtondobomjfanbaaW6
set_option linter.unusedVariables false
set_option linter.unusedSimpArgs false
set_option maxRecDepth 100000
namespace Go.Proofs
open Go Go.Abs
attribute [local irreducible] wpc aSeq awAny endA guardK condK CallK callT aPlan onlyL takeL aeffK takeE loopG bodyA thenA inBlockA planK

theorem unit16 {d : Dr} (h : 0 ≤ d.n ∧ d.n ≤ 3) : ∃ k, 4394000 / rad d = 16 * k := by
  have : d.n = 0 ∨ d.n = 1 ∨ d.n = 2 ∨ d.n = 3 := by omega
  unfold rad
  rcases this with h | h | h | h <;> rw [h] <;> simp only [show Int.toNat 0 = 0 from rfl, show Int.toNat 1 = 1 from rfl, show Int.toNat 2 = 2 from rfl, show Int.toNat 3 = 3 from rfl, p65_zero, p65_one, p65_two, p65_three]
  · exact ⟨274625, by decide⟩
  · exact ⟨4225, by decide⟩
  · exact ⟨65, by decide⟩
  · exact ⟨1, by decide⟩
theorem tmod_of_mul {a k : Int} (m : Int) (h : a = m * k) : a.tmod m = 0 := Int.tmod_eq_zero_of_dvd ⟨k, h⟩
theorem tdiv2 {n : Int} (h : -878800000 ≤ n ∧ n ≤ 878800000) : -439400000 ≤ n.tdiv 2 ∧ n.tdiv 2 ≤ 439400000 := by
  rcases Int.le_total 0 n with h0 | h0
  · rw [Int.tdiv_eq_ediv_of_nonneg h0]; omega
  · have e : n.tdiv 2 = -((-n).tdiv 2) := by rw [Int.neg_tdiv]; omega
    rw [e, Int.tdiv_eq_ediv_of_nonneg (by omega)]; omega
set_option maxHeartbeats 4000000 in
theorem law8 (l : List Int) (n : Int) (hn : -128 ≤ n ∧ n ≤ 127) : Pure Try.prog 8 [.sl 1 (ints l) .unk, .int .i8 n] (.bool true) := by
  have hv := dirOf_valid l
  have hd := Dir_pure l
  generalize dirOf l = d at hv hd
  have hs := valid_spec hv
  have hu := unit_bound d hs.1
  obtain ⟨k16, hk16⟩ := unit16 hs.1
  have hr := rad_bound d
  have hlen : (offset d n).1 * (offset d n).1 + (offset d n).2 * (offset d n).2 = (n * 4394000) * (n * 4394000) := by
    have h1 := hs.2.2.2
    have h2 := hu.2.2.2
    simp only [offset]
    generalize 4394000 / rad d = u at h2 ⊢; generalize rad d = r at h1 h2 ⊢; generalize d.x = x at h1 ⊢; generalize d.y = y at h1 ⊢
    rw [← h2]; grind
  have hneg1 : (offset d (-n)).1 = -(offset d n).1 := by simp only [offset]; grind
  have hneg2 : (offset d (-n)).2 = -(offset d n).2 := by simp only [offset]; grind
  have hz : offset d 0 = (0, 0) := by simp [offset]
  have h16a : (offset d n).1.tmod 16 = 0 := tmod_of_mul (k := n * k16 * d.x) 16 (by simp only [offset]; rw [hk16]; grind)
  have h16b : (offset d n).2.tmod 16 = 0 := tmod_of_mul (k := n * k16 * d.y) 16 (by simp only [offset]; rw [hk16]; grind)
  have hx := mul_self_nn (offset d n).1
  have hy := mul_self_nn (offset d n).2
  have hnn := mul_bound (a := n * 4394000) (b := n * 4394000) (A := 562432000) (B := 562432000) (by omega) (by omega) (by omega) (by omega)
  have b1 := sq_le (a := (offset d n).1) (r := 562432000) (by omega) (by omega)
  have b2 := sq_le (a := (offset d n).2) (r := 562432000) (by omega) (by omega)
  have g1 := Offset_pure d n hv (by omega)
  have g2 := Offset_pure d (-n) hv (by omega)
  have g3 := Offset_pure d 0 hv (by omega)
  rw [hz] at g3
  rw [show (offset d (-n)) = (-(offset d n).1, -(offset d n).2) from by ext <;> simp [hneg1, hneg2]] at g2
  clear hneg1 hneg2 hz hk16 hu hs hr
  generalize offset d n = p at *
  obtain ⟨px, py⟩ := p
  simp only at *
  have t1 := tdiv2 (n := px) (by omega)
  have t2 := tdiv2 (n := py) (by omega)
  have gm := May_pure (px.tdiv 2, py.tdiv 2)
  rw [show may (px.tdiv 2, py.tdiv 2) = true by simp [may]; omega] at gm
  have w0 : IntKind.wrap .i64 n = n := wrap64 (by omega) (by omega)
  have w0' : IntKind.wrap .i64 (-n) = -n := wrap64 (by omega) (by omega)
  have w1 : IntKind.wrap .i64 (n * 4394000) = n * 4394000 := wrap64 (by omega) (by omega)
  have w2 : IntKind.wrap .i64 (n * 4394000 * (n * 4394000)) = n * 4394000 * (n * 4394000) := wrap64 (by omega) (by omega)
  have w3 : IntKind.wrap .i64 (px * px) = px * px := wrap64 (by omega) (by omega)
  have w4 : IntKind.wrap .i64 (py * py) = py * py := wrap64 (by omega) (by omega)
  have w6 : IntKind.wrap .i64 (-px) = -px := wrap64 (by omega) (by omega)
  have w7 : IntKind.wrap .i64 (-py) = -py := wrap64 (by omega) (by omega)
  have w8 : IntKind.wrap .i64 (px.tdiv 2) = px.tdiv 2 := wrap64 (by omega) (by omega)
  have w9 : IntKind.wrap .i64 (py.tdiv 2) = py.tdiv 2 := wrap64 (by omega) (by omega)
  intro σ ns; refine acalls_of_wpc Try.mixed Try.dr8 Try.func8 rfl (Try.fit8 _ rfl) Try.en8 ?_; simp [Try.ntmps8]
  refine Pure.use_le head_pure ?_
  simp
  refine condK_cases (fun h => ?_) (fun h => ?_)
  · simp
    exact endA_pure (by simp)
  simp
  first | refine Pure.use_le (hd) ?_ | refine callT_le (hd) ?_
  simp [w0]
  first | refine Pure.use_le (g1) ?_ | refine callT_le (g1) ?_
  simp [w0, w0']
  first | refine Pure.use_le (g2) ?_ | refine callT_le (g2) ?_
  simp
  first | refine Pure.use_le (g3) ?_ | refine callT_le (g3) ?_
  simp [w8, w9]
  first | refine Pure.use_le (gm) ?_ | refine callT_le (gm) ?_
  simp [w0, w1, w2, w3, w4, hlen, w6, w7, h16a, h16b]
  exact endA_pure (by simp)
end Go.Proofs
