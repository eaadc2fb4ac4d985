/- Walks: composing, offsets, points. -/
import Derived.Test.YtajdhkchgidjmaaW4
set_option linter.unusedVariables false
set_option linter.unusedSimpArgs false
set_option maxRecDepth 100000
namespace Go.Proofs
open Go Go.Abs
attribute [local irreducible] wpc aSeq awAny endA guardK condK CallK callT aPlan onlyL takeL aeffK takeE loopG bodyA thenA inBlockA planK
def byv (v : V2) (q : Int) : V2 := (v.1 * (cs q).1 - v.2 * (cs q).2, v.1 * (cs q).2 + v.2 * (cs q).1)
/-- The products of a vector and a rotation are small. -/
theorem prods {v : V2} (h : -10000000000 ≤ v.1 ∧ v.1 ≤ 10000000000 ∧ -10000000000 ≤ v.2 ∧ v.2 ≤ 10000000000) (q : Int) :
    (-650000000000 ≤ v.1 * (cs q).1 ∧ v.1 * (cs q).1 ≤ 650000000000) ∧ (-650000000000 ≤ v.2 * (cs q).2 ∧ v.2 * (cs q).2 ≤ 650000000000) ∧ (-650000000000 ≤ v.1 * (cs q).2 ∧ v.1 * (cs q).2 ≤ 650000000000) ∧ (-650000000000 ≤ v.2 * (cs q).1 ∧ v.2 * (cs q).1 ≤ 650000000000) := by
  have hc := cs_bound q
  have a1 := mul_bound (a := v.1) (b := (cs q).1) (A := 10000000000) (B := 65) (by omega) (by omega) (by omega) (by omega)
  have a2 := mul_bound (a := v.2) (b := (cs q).2) (A := 10000000000) (B := 65) (by omega) (by omega) (by omega) (by omega)
  have a3 := mul_bound (a := v.1) (b := (cs q).2) (A := 10000000000) (B := 65) (by omega) (by omega) (by omega) (by omega)
  have a4 := mul_bound (a := v.2) (b := (cs q).1) (A := 10000000000) (B := 65) (by omega) (by omega) (by omega) (by omega)
  omega
theorem by_pure (v : V2) (q : Int) (h : -10000000000 ≤ v.1 ∧ v.1 ≤ 10000000000 ∧ -10000000000 ≤ v.2 ∧ v.2 ≤ 10000000000) : Pure Try.prog 49 [v.av, .int .i64 q] (byv v q).av := by
  have hp := prods h q
  intro σ ns; refine acalls_of_wpc Try.mixed Try.dr49 Try.func49 rfl (Try.fit49 _ rfl) Try.en49 (fun hσ => ?_); simp [Try.ntmps49]
  refine Pure.use_le (CosSin_pure q) ?_
  simp (disch := omega) [wrap64]
  exact endA_eq (by simp [byv]) (by simp)
def compose (d : Dr) (q : Int) : Dr := if valid d = false ∨ d.n = 3 then ⟨0, 0, 0⟩ else ⟨(byv (d.x, d.y) q).1, (byv (d.x, d.y) q).2, d.n + 1⟩
theorem rad_bound (d : Dr) : 1 ≤ rad d ∧ rad d ≤ 274625 := p65_bound _
theorem valid_spec {d : Dr} (h : valid d = true) : (0 ≤ d.n ∧ d.n ≤ 3) ∧ (-rad d ≤ d.x ∧ d.x ≤ rad d) ∧ (-rad d ≤ d.y ∧ d.y ≤ rad d) ∧ d.x * d.x + d.y * d.y = rad d * rad d := by
  simp [valid] at h; exact ⟨h.1.1.1, h.1.1.2, h.1.2, h.2⟩
theorem Compose_pure (d : Dr) (q : Int) : Pure Try.prog 37 [d.av, .int .i64 q] (compose d q).av := by
  intro σ ns; refine acalls_of_wpc Try.mixed Try.dr37 Try.func37 rfl (Try.fit37 _ rfl) Try.en37 (fun hσ => ?_); simp [Try.ntmps37]
  refine Pure.use_le (ValidDirection_pure d) ?_
  simp
  refine guardK_cases (fun h => ?_) (fun h => ?_) <;> simp at h <;> simp [h]
  · exact endA_eq (by simp [compose, h]) (by simp)
  · refine condK_cases (fun h1 => ?_) (fun h1 => ?_) <;> simp at h1
    · simp
      exact endA_eq (by simp [compose, h1]) (by simp)
    · simp
      have hv := valid_spec h
      have hr := rad_bound d
      refine Pure.use_le (by_pure (d.x, d.y) q (by simp only; omega)) ?_
      simp (disch := omega) [wrap64]
      exact endA_eq (by simp [compose, h, h1]) (by simp)
theorem Add_pure (d : Dr) (q : Int) : Pure Try.prog 51 [d.av, .int .i64 q] (compose d q).av := by
  intro σ ns; refine acalls_of_wpc Try.mixed Try.dr51 Try.func51 rfl (Try.fit51 _ rfl) Try.en51 (fun hσ => ?_); simp [Try.ntmps51]
  refine Pure.use_le (Right_pure d) ?_
  simp
  refine guardK_cases (fun h => ?_) (fun h => ?_) <;> simp at h <;> simp [h]
  · exact endA_eq (by simp [compose, h]) (by simp)
  · refine condK_cases (fun h1 => ?_) (fun h1 => ?_) <;> simp at h1
    · simp
      exact endA_eq (by simp [compose, h1]) (by simp)
    · simp
      have hv := valid_spec h
      have hr := rad_bound d
      have hp := prods (v := (d.x, d.y)) (by simp only; omega) q
      simp only at hp
      refine Pure.use_le (Of_pure q) ?_
      simp (disch := omega) [wrap64]
      exact endA_eq (by simp [compose, h, h1, byv]) (by simp)
def offset (d : Dr) (n : Int) : V2 := (n * (4394000 / rad d) * d.x, n * (4394000 / rad d) * d.y)
theorem unit_bound (d : Dr) (hd : 0 ≤ d.n ∧ d.n ≤ 3) : (4394000 : Int).tdiv (rad d) = 4394000 / rad d ∧ 0 ≤ 4394000 / rad d ∧ 4394000 / rad d ≤ 4394000 ∧ 4394000 / rad d * rad d = 4394000 := by
  have : d.n = 0 ∨ d.n = 1 ∨ d.n = 2 ∨ d.n = 3 := by omega
  unfold rad
  rcases this with h | h | h | h <;> rw [h] <;> simp only [show Int.toNat 0 = 0 from rfl, show Int.toNat 1 = 1 from rfl, show Int.toNat 2 = 2 from rfl, show Int.toNat 3 = 3 from rfl, p65_zero, p65_one, p65_two, p65_three] <;> decide
theorem off_bound {d : Dr} (h : valid d = true) {n : Int} (hn : -1000 ≤ n ∧ n ≤ 1000) :
    (-4394000000 ≤ n * (4394000 / rad d) ∧ n * (4394000 / rad d) ≤ 4394000000) ∧ (-1206702250000000 ≤ n * (4394000 / rad d) * d.x ∧ n * (4394000 / rad d) * d.x ≤ 1206702250000000) ∧ (-1206702250000000 ≤ n * (4394000 / rad d) * d.y ∧ n * (4394000 / rad d) * d.y ≤ 1206702250000000) := by
  have hv := valid_spec h
  have hr := rad_bound d
  have hu := unit_bound d hv.1
  have a1 := mul_bound (a := n) (b := 4394000 / rad d) (A := 1000) (B := 4394000) (by omega) (by omega) (by omega) (by omega)
  have a2 := mul_bound (a := n * (4394000 / rad d)) (b := d.x) (A := 4394000000) (B := 274625) (by omega) (by omega) (by omega) (by omega)
  have a3 := mul_bound (a := n * (4394000 / rad d)) (b := d.y) (A := 4394000000) (B := 274625) (by omega) (by omega) (by omega) (by omega)
  omega
theorem Offset_pure (d : Dr) (n : Int) (h : valid d = true) (hn : -1000 ≤ n ∧ n ≤ 1000) : Pure Try.prog 35 [d.av, .int .i64 n] (offset d n).av := by
  have hv := valid_spec h
  have hb := off_bound h hn
  have hu := unit_bound d hv.1
  have hr := rad_bound d
  obtain ⟨k, hk⟩ := Int.eq_ofNat_of_zero_le hv.1.1
  have hrk : rad d = p65 k := by simp [rad, hk]
  intro σ ns; refine acalls_of_wpc Try.mixed Try.dr35 Try.func35 rfl (Try.fit35 _ rfl) Try.en35 (fun hσ => ?_); simp [Try.ntmps35]
  rw [hk]
  refine Pure.use_le (of_pure k (by omega)) ?_
  rw [← hrk]
  have h0 : ¬ (rad d = 0) := by omega
  simp (disch := omega) [wrap64, h0, hu.1]
  exact endA_eq (by simp [offset]) (by simp)
theorem Fine_pure (d : Dr) (n : Int) (h : valid d = true) (hn : -1000 ≤ n ∧ n ≤ 1000) : Pure Try.prog 21 [d.av, .int .i64 n] (offset d n).av := by
  have hv := valid_spec h
  have hb := off_bound h hn
  have hu := unit_bound d hv.1
  have hr := rad_bound d
  obtain ⟨k, hk⟩ := Int.eq_ofNat_of_zero_le hv.1.1
  have hrk : rad d = p65 k := by simp [rad, hk]
  intro σ ns; refine acalls_of_wpc Try.mixed Try.dr21 Try.func21 rfl (Try.fit21 _ rfl) Try.en21 (fun hσ => ?_); simp [Try.ntmps21]
  rw [hk]
  refine Pure.use_le (Pow_pure k (by omega)) ?_
  rw [← hrk]
  have h0 : ¬ (rad d = 0) := by omega
  simp (disch := omega) [wrap64, h0, hu.1]
  exact endA_eq (by simp [offset]) (by simp)
def rotP (v : V2) (q : Int) : V2 × Bool := if (byv v q).1.tmod 65 ≠ 0 ∨ (byv v q).2.tmod 65 ≠ 0 then ((0, 0), false) else (((byv v q).1.tdiv 65, (byv v q).2.tdiv 65), true)
theorem byv_bound {v : V2} (h : -10000000000 ≤ v.1 ∧ v.1 ≤ 10000000000 ∧ -10000000000 ≤ v.2 ∧ v.2 ≤ 10000000000) (q : Int) :
    -1300000000000 ≤ (byv v q).1 ∧ (byv v q).1 ≤ 1300000000000 ∧ -1300000000000 ≤ (byv v q).2 ∧ (byv v q).2 ≤ 1300000000000 := by
  have := prods h q
  simp only [byv]; omega
theorem tdiv65 {n : Int} (h : -1300000000000 ≤ n ∧ n ≤ 1300000000000) : -1300000000000 ≤ n.tdiv 65 ∧ n.tdiv 65 ≤ 1300000000000 := by
  rcases Int.le_total 0 n with h0 | h0
  · rw [Int.tdiv_eq_ediv_of_nonneg h0]; omega
  · have e : n.tdiv 65 = -((-n).tdiv 65) := by rw [Int.neg_tdiv]; omega
    rw [e, Int.tdiv_eq_ediv_of_nonneg (by omega)]; omega
def may (v : V2) : Bool := decide (-439400000 ≤ v.1) && decide (v.1 ≤ 439400000) && decide (-439400000 ≤ v.2) && decide (v.2 ≤ 439400000)
theorem May_pure (v : V2) : Pure Try.prog 32 [v.av] (.bool (may v)) := by
  intro σ ns; refine acalls_of_wpc Try.mixed Try.dr32 Try.func32 rfl (Try.fit32 _ rfl) Try.en32 (fun hσ => ?_); simp [Try.ntmps32]
  repeat' first
    | (refine guardK_cases (fun h => ?_) (fun h => ?_) <;> simp [h])
  all_goals exact endA_eq (by first | (simp_all [may]; done) | (simp_all [may]; omega)) (by simp)
def pointOf (x y : Int) : V2 := (x.tmod 439400001, y.tmod 439400001)
def dirOf (l : List Int) : Dr := (l.take 3).foldl compose ⟨1, 0, 0⟩
abbrev ints (l : List Int) : List (List AV) := l.map fun n => [.int .i64 n]
end Go.Proofs
