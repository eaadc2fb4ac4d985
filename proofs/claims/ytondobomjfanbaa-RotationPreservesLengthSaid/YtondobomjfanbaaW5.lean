/- Walks: composing, offsets, points. -/
import Derived.Test.YtondobomjfanbaaW4
set_option linter.unusedVariables false
set_option linter.unusedSimpArgs false
set_option maxRecDepth 100000
namespace Go.Proofs
open Go Go.Abs
attribute [local irreducible] wpc aSeq awAny endA guardK condK CallK callT aPlan onlyL takeL aeffK takeE loopG bodyA thenA inBlockA planK
def byv (v : V2) (q : Int) : V2 := (v.1 * (cs q).1 - v.2 * (cs q).2, v.1 * (cs q).2 + v.2 * (cs q).1)
/-- The products of a vector and a rotation are small. -/
theorem prods {v : V2} (h : -10000000000 ≤ v.1 ∧ v.1 ≤ 10000000000 ∧ -10000000000 ≤ v.2 ∧ v.2 ≤ 10000000000) (q : Int) :
    (-650000000000 ≤ v.1 * (cs q).1 ∧ v.1 * (cs q).1 ≤ 650000000000) ∧ (-650000000000 ≤ v.2 * (cs q).2 ∧ v.2 * (cs q).2 ≤ 650000000000) ∧ (-650000000000 ≤ v.1 * (cs q).2 ∧ v.1 * (cs q).2 ≤ 650000000000) ∧ (-650000000000 ≤ v.2 * (cs q).1 ∧ v.2 * (cs q).1 ≤ 650000000000) := by
  have hc := cs_bound q
  have a1 := mul_bound (a := v.1) (b := (cs q).1) (A := 10000000000) (B := 65) (by omega) (by omega) (by omega) (by omega)
  have a2 := mul_bound (a := v.2) (b := (cs q).2) (A := 10000000000) (B := 65) (by omega) (by omega) (by omega) (by omega)
  have a3 := mul_bound (a := v.1) (b := (cs q).2) (A := 10000000000) (B := 65) (by omega) (by omega) (by omega) (by omega)
  have a4 := mul_bound (a := v.2) (b := (cs q).1) (A := 10000000000) (B := 65) (by omega) (by omega) (by omega) (by omega)
  omega
theorem by_pure (v : V2) (q : Int) (h : -10000000000 ≤ v.1 ∧ v.1 ≤ 10000000000 ∧ -10000000000 ≤ v.2 ∧ v.2 ≤ 10000000000) : Pure Try.prog 32 [v.av, .int .i64 q] (byv v q).av := by
  have hp := prods h q
  intro σ ns; refine acalls_of_wpc Try.mixed Try.dr32 Try.func32 rfl (Try.fit32 _ rfl) Try.en32 ?_; simp [Try.ntmps32]
  refine Pure.use_le (CosSin_pure q) ?_
  simp (disch := omega) [wrap64]
  exact endA_eq (by simp [byv]) (by simp)
def compose (d : Dr) (q : Int) : Dr := if valid d = false ∨ d.n = 3 then ⟨0, 0, 0⟩ else ⟨(byv (d.x, d.y) q).1, (byv (d.x, d.y) q).2, d.n + 1⟩
theorem rad_bound (d : Dr) : 1 ≤ rad d ∧ rad d ≤ 274625 := p65_bound _
theorem valid_spec {d : Dr} (h : valid d = true) : (0 ≤ d.n ∧ d.n ≤ 3) ∧ (-rad d ≤ d.x ∧ d.x ≤ rad d) ∧ (-rad d ≤ d.y ∧ d.y ≤ rad d) ∧ d.x * d.x + d.y * d.y = rad d * rad d := by
  simp [valid] at h; exact ⟨h.1.1.1, h.1.1.2, h.1.2, h.2⟩
theorem Compose_pure (d : Dr) (q : Int) : Pure Try.prog 21 [d.av, .int .i64 q] (compose d q).av := by
  intro σ ns; refine acalls_of_wpc Try.mixed Try.dr21 Try.func21 rfl (Try.fit21 _ rfl) Try.en21 ?_; simp [Try.ntmps21]
  refine Pure.use_le (ValidDirection_pure d) ?_
  simp
  refine guardK_cases (fun h => ?_) (fun h => ?_) <;> simp at h <;> simp [h]
  · exact endA_eq (by simp [compose, h]) (by simp)
  · refine condK_cases (fun h1 => ?_) (fun h1 => ?_) <;> simp at h1
    · simp
      exact endA_eq (by simp [compose, h1]) (by simp)
    · simp
      have hv := valid_spec h
      have hr := rad_bound d
      refine Pure.use_le (by_pure (d.x, d.y) q (by simp only; omega)) ?_
      simp (disch := omega) [wrap64]
      exact endA_eq (by simp [compose, h, h1]) (by simp)
theorem Add_pure (d : Dr) (q : Int) : Pure Try.prog 22 [d.av, .int .i64 q] (compose d q).av := by
  intro σ ns; refine acalls_of_wpc Try.mixed Try.dr22 Try.func22 rfl (Try.fit22 _ rfl) Try.en22 ?_; simp [Try.ntmps22]
  refine Pure.use_le (Right_pure d) ?_
  simp
  refine guardK_cases (fun h => ?_) (fun h => ?_) <;> simp at h <;> simp [h]
  · exact endA_eq (by simp [compose, h]) (by simp)
  · refine condK_cases (fun h1 => ?_) (fun h1 => ?_) <;> simp at h1
    · simp
      exact endA_eq (by simp [compose, h1]) (by simp)
    · simp
      have hv := valid_spec h
      have hr := rad_bound d
      have hp := prods (v := (d.x, d.y)) (by simp only; omega) q
      simp only at hp
      refine Pure.use_le (Of_pure q) ?_
      simp (disch := omega) [wrap64]
      exact endA_eq (by simp [compose, h, h1, byv]) (by simp)
def offset (d : Dr) (n : Int) : V2 := (n * (4394000 / rad d) * d.x, n * (4394000 / rad d) * d.y)
theorem unit_bound (d : Dr) (hd : 0 ≤ d.n ∧ d.n ≤ 3) : (4394000 : Int).tdiv (rad d) = 4394000 / rad d ∧ 0 ≤ 4394000 / rad d ∧ 4394000 / rad d ≤ 4394000 ∧ 4394000 / rad d * rad d = 4394000 := by
  have : d.n = 0 ∨ d.n = 1 ∨ d.n = 2 ∨ d.n = 3 := by omega
  unfold rad
  rcases this with h | h | h | h <;> rw [h] <;> simp only [show Int.toNat 0 = 0 from rfl, show Int.toNat 1 = 1 from rfl, show Int.toNat 2 = 2 from rfl, show Int.toNat 3 = 3 from rfl, p65_zero, p65_one, p65_two, p65_three] <;> decide
theorem off_bound {d : Dr} (h : valid d = true) {n : Int} (hn : -1000 ≤ n ∧ n ≤ 1000) :
    (-4394000000 ≤ n * (4394000 / rad d) ∧ n * (4394000 / rad d) ≤ 4394000000) ∧ (-1206702250000000 ≤ n * (4394000 / rad d) * d.x ∧ n * (4394000 / rad d) * d.x ≤ 1206702250000000) ∧ (-1206702250000000 ≤ n * (4394000 / rad d) * d.y ∧ n * (4394000 / rad d) * d.y ≤ 1206702250000000) := by
  have hv := valid_spec h
  have hr := rad_bound d
  have hu := unit_bound d hv.1
  have a1 := mul_bound (a := n) (b := 4394000 / rad d) (A := 1000) (B := 4394000) (by omega) (by omega) (by omega) (by omega)
  have a2 := mul_bound (a := n * (4394000 / rad d)) (b := d.x) (A := 4394000000) (B := 274625) (by omega) (by omega) (by omega) (by omega)
  have a3 := mul_bound (a := n * (4394000 / rad d)) (b := d.y) (A := 4394000000) (B := 274625) (by omega) (by omega) (by omega) (by omega)
  omega
theorem Offset_pure (d : Dr) (n : Int) (h : valid d = true) (hn : -1000 ≤ n ∧ n ≤ 1000) : Pure Try.prog 23 [d.av, .int .i64 n] (offset d n).av := by
  have hv := valid_spec h
  have hb := off_bound h hn
  have hu := unit_bound d hv.1
  have hr := rad_bound d
  obtain ⟨k, hk⟩ := Int.eq_ofNat_of_zero_le hv.1.1
  have hrk : rad d = p65 k := by simp [rad, hk]
  intro σ ns; refine acalls_of_wpc Try.mixed Try.dr23 Try.func23 rfl (Try.fit23 _ rfl) Try.en23 ?_; simp [Try.ntmps23]
  rw [hk]
  refine Pure.use_le (of_pure k (by omega)) ?_
  rw [← hrk]
  have h0 : ¬ (rad d = 0) := by omega
  simp (disch := omega) [wrap64, h0, hu.1]
  exact endA_eq (by simp [offset]) (by simp)
theorem Fine_pure (d : Dr) (n : Int) (h : valid d = true) (hn : -1000 ≤ n ∧ n ≤ 1000) : Pure Try.prog 24 [d.av, .int .i64 n] (offset d n).av := by
  have hv := valid_spec h
  have hb := off_bound h hn
  have hu := unit_bound d hv.1
  have hr := rad_bound d
  obtain ⟨k, hk⟩ := Int.eq_ofNat_of_zero_le hv.1.1
  have hrk : rad d = p65 k := by simp [rad, hk]
  intro σ ns; refine acalls_of_wpc Try.mixed Try.dr24 Try.func24 rfl (Try.fit24 _ rfl) Try.en24 ?_; simp [Try.ntmps24]
  rw [hk]
  refine Pure.use_le (Pow_pure k (by omega)) ?_
  rw [← hrk]
  have h0 : ¬ (rad d = 0) := by omega
  simp (disch := omega) [wrap64, h0, hu.1]
  exact endA_eq (by simp [offset]) (by simp)
theorem RotateQuarter_pure (v : V2) (h : -10000000000 ≤ v.2 ∧ v.2 ≤ 10000000000) : Pure Try.prog 25 [v.av] (left v).av := by
  intro σ ns; refine acalls_of_wpc Try.mixed Try.dr25 Try.func25 rfl (Try.fit25 _ rfl) Try.en25 ?_; simp [Try.ntmps25]
  refine Pure.use_le (left_pure v (by omega)) ?_
  simp
  exact endA_eq (by simp) (by simp)
theorem Left_pure (v : V2) (h : -10000000000 ≤ v.2 ∧ v.2 ≤ 10000000000) : Pure Try.prog 26 [v.av] (left v).av := by
  intro σ ns; refine acalls_of_wpc Try.mixed Try.dr26 Try.func26 rfl (Try.fit26 _ rfl) Try.en26 ?_; simp [Try.ntmps26]
  simp (disch := omega) [wrap64]
  exact endA_eq (by simp [left]) (by simp)
def rotP (v : V2) (q : Int) : V2 × Bool := if (byv v q).1.tmod 65 ≠ 0 ∨ (byv v q).2.tmod 65 ≠ 0 then ((0, 0), false) else (((byv v q).1.tdiv 65, (byv v q).2.tdiv 65), true)
theorem byv_bound {v : V2} (h : -10000000000 ≤ v.1 ∧ v.1 ≤ 10000000000 ∧ -10000000000 ≤ v.2 ∧ v.2 ≤ 10000000000) (q : Int) :
    -1300000000000 ≤ (byv v q).1 ∧ (byv v q).1 ≤ 1300000000000 ∧ -1300000000000 ≤ (byv v q).2 ∧ (byv v q).2 ≤ 1300000000000 := by
  have := prods h q
  simp only [byv]; omega
theorem tdiv65 {n : Int} (h : -1300000000000 ≤ n ∧ n ≤ 1300000000000) : -1300000000000 ≤ n.tdiv 65 ∧ n.tdiv 65 ≤ 1300000000000 := by
  rcases Int.le_total 0 n with h0 | h0
  · rw [Int.tdiv_eq_ediv_of_nonneg h0]; omega
  · have e : n.tdiv 65 = -((-n).tdiv 65) := by rw [Int.neg_tdiv]; omega
    rw [e, Int.tdiv_eq_ediv_of_nonneg (by omega)]; omega
theorem RotatePoint_pure (v : V2) (q : Int) (h : -10000000000 ≤ v.1 ∧ v.1 ≤ 10000000000 ∧ -10000000000 ≤ v.2 ∧ v.2 ≤ 10000000000) : Pure Try.prog 15 [v.av, .int .i64 q] (.tup [(rotP v q).1.av, .bool (rotP v q).2]) := by
  have hb := byv_bound h q
  have hd1 := tdiv65 (n := (byv v q).1) (by omega)
  have hd2 := tdiv65 (n := (byv v q).2) (by omega)
  intro σ ns; refine acalls_of_wpc Try.mixed Try.dr15 Try.func15 rfl (Try.fit15 _ rfl) Try.en15 ?_; simp [Try.ntmps15]
  refine Pure.use_le (by_pure v q h) ?_
  simp
  refine guardK_cases (fun h1 => ?_) (fun h1 => ?_) <;> simp [h1] <;> simp at h1
  · exact endA_eq (by simp [rotP, h1]) (by simp)
  · refine condK_cases (fun h2 => ?_) (fun h2 => ?_) <;> try simp at h2
    · simp
      exact endA_eq (by simp [rotP, h2]) (by simp)
    · simp (disch := omega) [wrap64]
      exact endA_eq (by simp [rotP, h1, h2]) (by simp)
theorem Rot_pure (v : V2) (q : Int) (h : -10000000000 ≤ v.1 ∧ v.1 ≤ 10000000000 ∧ -10000000000 ≤ v.2 ∧ v.2 ≤ 10000000000) : Pure Try.prog 16 [v.av, .int .i64 q] (.tup [(rotP v q).1.av, .bool (rotP v q).2]) := by
  have hp := prods h q
  have hb := byv_bound h q
  have hd1 := tdiv65 (n := (byv v q).1) (by omega)
  have hd2 := tdiv65 (n := (byv v q).2) (by omega)
  have e1 : (byv v q).1 = v.1 * (cs q).1 - v.2 * (cs q).2 := rfl
  have e2 : (byv v q).2 = v.1 * (cs q).2 + v.2 * (cs q).1 := rfl
  intro σ ns; refine acalls_of_wpc Try.mixed Try.dr16 Try.func16 rfl (Try.fit16 _ rfl) Try.en16 ?_; simp [Try.ntmps16]
  refine Pure.use_le (Of_pure q) ?_
  simp (disch := omega) [wrap64, ← e1, ← e2]
  refine guardK_cases (fun h1 => ?_) (fun h1 => ?_) <;> simp [h1] <;> simp at h1
  · exact endA_eq (by simp [rotP, h1]) (by simp)
  · refine condK_cases (fun h2 => ?_) (fun h2 => ?_) <;> try simp at h2
    · simp
      exact endA_eq (by simp [rotP, h2]) (by simp)
    · simp (disch := omega) [wrap64]
      exact endA_eq (by simp [rotP, h1, h2]) (by simp)
def may (v : V2) : Bool := decide (-439400000 ≤ v.1) && decide (v.1 ≤ 439400000) && decide (-439400000 ≤ v.2) && decide (v.2 ≤ 439400000)
theorem May_pure (v : V2) : Pure Try.prog 27 [v.av] (.bool (may v)) := by
  intro σ ns; refine acalls_of_wpc Try.mixed Try.dr27 Try.func27 rfl (Try.fit27 _ rfl) Try.en27 ?_; simp [Try.ntmps27]
  repeat' first
    | (refine guardK_cases (fun h => ?_) (fun h => ?_) <;> simp [h])
  all_goals exact endA_eq (by first | (simp_all [may]; done) | (simp_all [may]; omega)) (by simp)
def pointOf (x y : Int) : V2 := (x.tmod 439400001, y.tmod 439400001)
theorem Point_pure (x y : Int) (hx : -2147483648 ≤ x ∧ x ≤ 2147483647) (hy : -2147483648 ≤ y ∧ y ≤ 2147483647) : Pure Try.prog 12 [.int .i32 x, .int .i32 y] (pointOf x y).av := by
  intro σ ns; refine acalls_of_wpc Try.mixed Try.dr12 Try.func12 rfl (Try.fit12 _ rfl) Try.en12 ?_; simp [Try.ntmps12]
  simp (disch := omega) [wrap64]
  exact endA_eq (by simp [pointOf]) (by simp)
def dirOf (l : List Int) : Dr := (l.take 3).foldl compose ⟨1, 0, 0⟩
abbrev ints (l : List Int) : List (List AV) := l.map fun n => [.int .i64 n]
theorem Dir_pure (l : List Int) : Pure Try.prog 11 [.sl 1 (ints l) .unk] (dirOf l).av := by
  intro σ ns; refine acalls_of_wpc Try.mixed Try.dr11 Try.func11 rfl (Try.fit11 _ rfl) Try.en11 ?_; simp [Try.ntmps11]
  refine wpc_loop (fun i : Nat => [(4, .any), (6, .any), (7, .any), (8, .any), (9, .any), (10, .any), (11, .any), (12, .any), (13, .any), (14, .any), (15, .any), (16, .any), (17, .any), (18, .any), (19, .any), (20, .any), (21, .any),  (4, .int .i64 i)]) (fun i => (σ.up ((ns.sub 0).sub 0) (.var [.int .i64 0, .int .i64 0, .int .i64 0])).up ((ns.sub 1).sub 1) (.var [.int .i64 ((l.take i).foldl compose ⟨1, 0, 0⟩).x, .int .i64 ((l.take i).foldl compose ⟨1, 0, 0⟩).y, .int .i64 ((l.take i).foldl compose ⟨1, 0, 0⟩).n]))
    (fun i => 3 - i) (fun i => i ≤ 3 ∧ i ≤ l.length) 0 (by simp) ?_ ?_ ?_
  · simp
    (repeat' first | exact AVsle.nil | refine AVsle.cons (AVle.any _) ?_ | refine AVsle.cons (AVle.refl _) ?_ | refine AVsle.cons AVLe.le ?_)
  · exact .refl _
  rintro i k ⟨h3, hl⟩
  simp
  refine guardK_cases (fun h => ?_) (fun h => ?_) <;> simp [h] <;> simp at h
  · refine condK_cases (fun h1 => ?_) (fun h1 => ?_) <;> simp at h1
    · have hi : i < 3 := by omega
      have hg : l[i]? = some l[i] := List.getElem?_eq_getElem h
      have ht : l.take (i + 1) = l.take i ++ [l[i]] := List.take_succ_eq_append_getElem h
      generalize l[i] = q at hg ht
      simp [hg]
      refine Pure.use_le (Add_pure ((l.take i).foldl compose ⟨1, 0, 0⟩) q) ?_
      simp (disch := omega) [wrap64]
      refine loopG_normal (i + 1) ⟨by omega, by omega⟩ (by omega) ?_ ?_ rfl rfl
      · simp
        (repeat' first | exact AVsle.nil | refine AVsle.cons (AVle.any _) ?_ | refine AVsle.cons (AVle.refl _) ?_ | refine AVsle.cons AVLe.le ?_)
      · exact .of_eq (by simp [restoreS_up_out, restoreS_left_out, Nm.under_sub, ht])
    · have hi : i = 3 := by omega
      simp
      exact endA_eq (by simp [dirOf, hi]) (by simp)
  · have hi : l.take 3 = l.take i := by rw [List.take_of_length_le (by omega), List.take_of_length_le (by omega)]
    exact endA_eq (by simp [dirOf, hi]) (by simp)
end Go.Proofs
