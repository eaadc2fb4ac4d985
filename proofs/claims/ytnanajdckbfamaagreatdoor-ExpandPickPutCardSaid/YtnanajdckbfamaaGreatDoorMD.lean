/- W7, W8, W9, W10, W11, joined. -/
import Derived.Test.YtnanajdckbfamaaGreatDoorMC
/- Plain definitions of arms; walks of the small functions of arms and points. -/
set_option linter.unusedVariables false
set_option linter.unusedSimpArgs false
set_option maxRecDepth 100000
namespace Go.Proofs
open Go Go.Abs
attribute [local irreducible] wpc aSeq awAny endA guardK condK CallK callT aPlan onlyL takeL aeffK takeE loopG bodyA thenA inBlockA planK roundG assignG bodyI endI YieldK
structure J3 where
  a : Int
  b : Int
  c : Int
  deriving DecidableEq
abbrev J3.cells (q : J3) : List AV := [.int .i64 q.a, .int .i64 q.b, .int .i64 q.c]
abbrev J3.av (q : J3) : AV := .agg q.cells
structure Ar where
  base : V2
  lens : J3
  wide : Int
  low : J3
  high : J3
  deriving DecidableEq
abbrev Ar.cells (a : Ar) : List AV := [.int .i64 a.base.1, .int .i64 a.base.2, .int .i64 a.lens.a, .int .i64 a.lens.b, .int .i64 a.lens.c, .int .i64 a.wide, .int .i64 a.low.a, .int .i64 a.low.b, .int .i64 a.low.c, .int .i64 a.high.a, .int .i64 a.high.b, .int .i64 a.high.c]
abbrev Ar.av (a : Ar) : AV := .agg a.cells
def V2.add (p q : V2) : V2 := (p.1 + q.1, p.2 + q.2)
def V2.sub (p q : V2) : V2 := (p.1 - q.1, p.2 - q.2)
/-- Coordinates that sums may not take out of 64 bits. -/
def V2.ok (p : V2) : Prop := -1000000000000 ≤ p.1 ∧ p.1 ≤ 1000000000000 ∧ -1000000000000 ≤ p.2 ∧ p.2 ≤ 1000000000000
theorem gAdd_pure (p q : V2) (hp : p.ok) (hq : q.ok) : Pure Tryz.prog 37 [p.av, q.av] (p.add q).av := by
  unfold V2.ok at hp hq
  refine pure_val fun σ ns _ => ?_; refine acalls_of_wpc Tryz.mixed Tryz.dr37 Tryz.func37 rfl (Tryz.fit37 _ rfl) Tryz.en37 (fun hσ => ?_); simp [Tryz.ntmps37]
  simp (disch := omega) [wrap64]
  exact endA_eq (by simp [V2.add]) (by simp)
theorem gSub_pure (p q : V2) (hp : p.ok) (hq : q.ok) : Pure Tryz.prog 142 [p.av, q.av] (p.sub q).av := by
  unfold V2.ok at hp hq
  refine pure_val fun σ ns _ => ?_; refine acalls_of_wpc Tryz.mixed Tryz.dr142 Tryz.func142 rfl (Tryz.fit142 _ rfl) Tryz.en142 (fun hσ => ?_); simp [Tryz.ntmps142]
  simp (disch := omega) [wrap64]
  exact endA_eq (by simp [V2.sub]) (by simp)
theorem plus_pure (p q : V2) (hp : p.ok) (hq : q.ok) : Pure Tryz.prog 118 [p.av, q.av] (p.add q).av := by
  unfold V2.ok at hp hq
  refine pure_val fun σ ns _ => ?_; refine acalls_of_wpc Tryz.mixed Tryz.dr118 Tryz.func118 rfl (Tryz.fit118 _ rfl) Tryz.en118 (fun hσ => ?_); simp [Tryz.ntmps118]
  simp (disch := omega) [wrap64]
  exact endA_eq (by simp [V2.add]) (by simp)
theorem turns_pure (a : Ar) (j : Int) : Pure Tryz.prog 143 [a.av, .int .i64 j] (.fn (.func 147) [] [.cptr a.cells, .cptr [.int .i64 j]]) := by
  refine pure_val fun σ ns _ => ?_
  refine ACalls.freezeT (n := (ns.sub 0).sub 0) (τ := σ) (pre := []) (post := [.cptr [.int .i64 j]]) (cs := a.cells) (fun h => h _ (by simp)) ?_
  refine ACalls.freezeT (n := (ns.sub 0).sub 1) (τ := σ.up ((ns.sub 0).sub 0) (.var a.cells)) (pre := [.ptr ((ns.sub 0).sub 0) 0]) (post := []) (cs := [.int .i64 j]) (fun h => by rw [Store.up_get, if_neg (by simp)]; exact h _ (by simp)) ?_
  refine acalls_of_wpc Tryz.mixed Tryz.dr143 Tryz.func143 rfl (Tryz.fit143 _ rfl) Tryz.en143 (fun hσ => ?_); simp [Tryz.ntmps143]
  refine endA_intro (σ' := (σ.up ((ns.sub 0).sub 0) (.var a.cells)).up ((ns.sub 0).sub 1) (.var [.int .i64 j])) (StWk.weak (.refl _)) ⟨by simp, by simp⟩
/-- The numbers from lo on. -/
def upto (lo : Int) (n : Nat) : List Int := (List.range n).map fun t => lo + (t : Nat)
instance AVLe.addSucc {k : IntKind} {a : Int} {i : Nat} : AVLe (.int k (a + i + 1)) (.int k (a + ((i : Int) + 1))) := ⟨by rw [Int.add_assoc]; exact .refl _⟩
theorem turns_iter (a : Ar) (j lo hi : Int) (h : (j = 0 ∧ lo = a.low.a ∧ hi = a.high.a) ∨ (j = 1 ∧ lo = a.low.b ∧ hi = a.high.b) ∨ (j = 2 ∧ lo = a.low.c ∧ hi = a.high.c)) (hb : -1000 ≤ lo ∧ hi ≤ 1000) :
    AIter Tryz.prog 147 [.cptr a.cells, .cptr [.int .i64 j]] ((upto lo (hi - lo + 1).toNat).map fun q => [.int .i64 q]) := by
  obtain ⟨b0, le, wi, ⟨l0, l1, l2⟩, ⟨g0, g1, g2⟩⟩ := a
  simp only at h
  refine aiter_of_wpcV Tryz.mixed Tryz.dr147 Tryz.func147 rfl (Tryz.fit147 _ rfl) Tryz.en147 (fun l ns _ J X hy σ F hJ => ?_); simp [Tryz.ntmps147]
  rcases h with ⟨rfl, rfl, rfl⟩ | ⟨rfl, rfl, rfl⟩ | ⟨rfl, rfl, rfl⟩ <;> simp
  · refine wpc_loopF (α := Nat × Store × Fre) (fun p => [(4, .any), (9, .any), (10, .any), (11, .any), (12, .any), (13, .any), (14, .any), (15, .any), (16, .any), (17, .any), (18, .any), (19, .any), (20, .any),  (4, .int .i64 (lo + p.1))]) (fun p => p.2.1) (fun p => p.2.2) (fun p => (hi - lo + 1).toNat - p.1) (fun p => p.1 ≤ (hi - lo + 1).toNat ∧ J p.1 p.2.1 p.2.2 ∧ p.2.2.Le F) (0, σ, F) (fun p hp => hp.2.2) ⟨by simp, hJ, .refl _⟩ ?_ (.refl _) rfl ?_
    · simp
      (repeat' first | exact AVsle.nil | refine AVsle.cons (AVle.any _) ?_ | refine AVsle.cons (AVle.refl _) ?_ | refine AVsle.cons AVLe.le ?_)
    rintro ⟨i, σi, Fi⟩ k ⟨hi1, hJi, hFi⟩
    simp only at hi1 hJi hFi
    simp
    refine condK_cases (fun h => ?_) (fun h => ?_) <;> simp at h
    · simp
      refine hy.use hJi (y := [.int .i64 (lo + i)]) ?_ (.refl _) (fun σ' F' hF' hJ' => ?_) (fun σ' F' hF' hX => ?_)
      · simp [upto, show i < (hi - lo + 1).toNat by omega]
      · simp (disch := omega) [wrap64]
        refine loopG_normal (i + 1, σ', F') ⟨by simp only; omega, hJ', hF'.trans hFi⟩ (by simp only; omega) ?_ ?_ rfl rfl
        · simp
          (repeat' first | exact AVsle.nil | refine AVsle.cons (AVle.any _) ?_ | refine AVsle.cons (AVle.refl _) ?_ | refine AVsle.cons AVLe.le ?_)
        · exact StWk.weak (.refl _)
      · simp
        exact endI_same (.inr hX)
    · obtain rfl : i = (hi - lo + 1).toNat := by omega
      simp
      exact endI_same (.inl (by simpa [upto] using hJi))
  · refine wpc_loopF (α := Nat × Store × Fre) (fun p => [(4, .any), (9, .any), (10, .any), (11, .any), (12, .any), (13, .any), (14, .any), (15, .any), (16, .any), (17, .any), (18, .any), (19, .any), (20, .any),  (4, .int .i64 (lo + p.1))]) (fun p => p.2.1) (fun p => p.2.2) (fun p => (hi - lo + 1).toNat - p.1) (fun p => p.1 ≤ (hi - lo + 1).toNat ∧ J p.1 p.2.1 p.2.2 ∧ p.2.2.Le F) (0, σ, F) (fun p hp => hp.2.2) ⟨by simp, hJ, .refl _⟩ ?_ (.refl _) rfl ?_
    · simp
      (repeat' first | exact AVsle.nil | refine AVsle.cons (AVle.any _) ?_ | refine AVsle.cons (AVle.refl _) ?_ | refine AVsle.cons AVLe.le ?_)
    rintro ⟨i, σi, Fi⟩ k ⟨hi1, hJi, hFi⟩
    simp only at hi1 hJi hFi
    simp
    refine condK_cases (fun h => ?_) (fun h => ?_) <;> simp at h
    · simp
      refine hy.use hJi (y := [.int .i64 (lo + i)]) ?_ (.refl _) (fun σ' F' hF' hJ' => ?_) (fun σ' F' hF' hX => ?_)
      · simp [upto, show i < (hi - lo + 1).toNat by omega]
      · simp (disch := omega) [wrap64]
        refine loopG_normal (i + 1, σ', F') ⟨by simp only; omega, hJ', hF'.trans hFi⟩ (by simp only; omega) ?_ ?_ rfl rfl
        · simp
          (repeat' first | exact AVsle.nil | refine AVsle.cons (AVle.any _) ?_ | refine AVsle.cons (AVle.refl _) ?_ | refine AVsle.cons AVLe.le ?_)
        · exact StWk.weak (.refl _)
      · simp
        exact endI_same (.inr hX)
    · obtain rfl : i = (hi - lo + 1).toNat := by omega
      simp
      exact endI_same (.inl (by simpa [upto] using hJi))
  · refine wpc_loopF (α := Nat × Store × Fre) (fun p => [(4, .any), (9, .any), (10, .any), (11, .any), (12, .any), (13, .any), (14, .any), (15, .any), (16, .any), (17, .any), (18, .any), (19, .any), (20, .any),  (4, .int .i64 (lo + p.1))]) (fun p => p.2.1) (fun p => p.2.2) (fun p => (hi - lo + 1).toNat - p.1) (fun p => p.1 ≤ (hi - lo + 1).toNat ∧ J p.1 p.2.1 p.2.2 ∧ p.2.2.Le F) (0, σ, F) (fun p hp => hp.2.2) ⟨by simp, hJ, .refl _⟩ ?_ (.refl _) rfl ?_
    · simp
      (repeat' first | exact AVsle.nil | refine AVsle.cons (AVle.any _) ?_ | refine AVsle.cons (AVle.refl _) ?_ | refine AVsle.cons AVLe.le ?_)
    rintro ⟨i, σi, Fi⟩ k ⟨hi1, hJi, hFi⟩
    simp only at hi1 hJi hFi
    simp
    refine condK_cases (fun h => ?_) (fun h => ?_) <;> simp at h
    · simp
      refine hy.use hJi (y := [.int .i64 (lo + i)]) ?_ (.refl _) (fun σ' F' hF' hJ' => ?_) (fun σ' F' hF' hX => ?_)
      · simp [upto, show i < (hi - lo + 1).toNat by omega]
      · simp (disch := omega) [wrap64]
        refine loopG_normal (i + 1, σ', F') ⟨by simp only; omega, hJ', hF'.trans hFi⟩ (by simp only; omega) ?_ ?_ rfl rfl
        · simp
          (repeat' first | exact AVsle.nil | refine AVsle.cons (AVle.any _) ?_ | refine AVsle.cons (AVle.refl _) ?_ | refine AVsle.cons AVLe.le ?_)
        · exact StWk.weak (.refl _)
      · simp
        exact endI_same (.inr hX)
    · obtain rfl : i = (hi - lo + 1).toNat := by omega
      simp
      exact endI_same (.inl (by simpa [upto] using hJi))
end Go.Proofs

/- Walks of the functions with loops over three joints. -/
set_option linter.unusedVariables false
set_option linter.unusedSimpArgs false
set_option maxRecDepth 100000
namespace Go.Proofs
open Go Go.Abs
attribute [local irreducible] wpc aSeq awAny endA guardK condK CallK callT aPlan onlyL takeL aeffK takeE loopG bodyA thenA inBlockA planK roundG assignG bodyI endI YieldK unrollG
@[simp] theorem w64_0 : IntKind.wrap .i64 0 = 0 := by decide
@[simp] theorem w64_1 : IntKind.wrap .i64 1 = 1 := by decide
@[simp] theorem w64_2 : IntKind.wrap .i64 2 = 2 := by decide
@[simp] theorem w64_3 : IntKind.wrap .i64 3 = 3 := by decide
@[simp] theorem w64_m1 : IntKind.wrap .i64 (-1) = -1 := by decide
def fits (a : Ar) (q : J3) : Bool := decide (a.low.a ≤ q.a ∧ q.a ≤ a.high.a) && decide (a.low.b ≤ q.b ∧ q.b ≤ a.high.b) && decide (a.low.c ≤ q.c ∧ q.c ≤ a.high.c)
theorem inLimits_pure (a : Ar) (q : J3) : Pure Tryz.prog 132 [a.av, q.av] (.bool (fits a q)) := by
  obtain ⟨b0, le, wi, ⟨l0, l1, l2⟩, ⟨g0, g1, g2⟩⟩ := a
  obtain ⟨q0, q1, q2⟩ := q
  refine pure_val fun σ ns _ => ?_; refine acalls_of_wpc Tryz.mixed Tryz.dr132 Tryz.func132 rfl (Tryz.fit132 _ rfl) Tryz.en132 (fun hσ => ?_); simp [Tryz.ntmps132]
  refine wpc_unroll 3 (fun k => ?_)
  simp
  refine guardK_cases (fun h0 => ?_) (fun h0 => ?_) <;> simp [h0] <;> simp at h0
  · exact endA_eq (by simp [fits]; omega) (by simp)
  refine condK_cases (fun h1 => ?_) (fun h1 => ?_) <;> simp [h1] <;> simp at h1
  · exact endA_eq (by simp [fits]; omega) (by simp)
  refine unroll_next (fun k1 => ?_)
  simp
  refine guardK_cases (fun h2 => ?_) (fun h2 => ?_) <;> simp [h2] <;> simp at h2
  · exact endA_eq (by simp [fits]; omega) (by simp)
  refine condK_cases (fun h3 => ?_) (fun h3 => ?_) <;> simp [h3] <;> simp at h3
  · exact endA_eq (by simp [fits]; omega) (by simp)
  refine unroll_next (fun k2 => ?_)
  simp
  refine guardK_cases (fun h4 => ?_) (fun h4 => ?_) <;> simp [h4] <;> simp at h4
  · exact endA_eq (by simp [fits]; omega) (by simp)
  refine condK_cases (fun h5 => ?_) (fun h5 => ?_) <;> simp [h5] <;> simp at h5
  · exact endA_eq (by simp [fits]; omega) (by simp)
  refine unroll_next (fun k3 => ?_)
  simp
  exact endA_eq (by simp [fits]; omega) (by simp)
theorem rFits_pure (a : Ar) (q : J3) : Pure Tryz.prog 31 [a.av, q.av] (.bool (fits a q)) := by
  obtain ⟨b0, le, wi, ⟨l0, l1, l2⟩, ⟨g0, g1, g2⟩⟩ := a
  obtain ⟨q0, q1, q2⟩ := q
  refine pure_val fun σ ns _ => ?_; refine acalls_of_wpc Tryz.mixed Tryz.dr31 Tryz.func31 rfl (Tryz.fit31 _ rfl) Tryz.en31 (fun hσ => ?_); simp [Tryz.ntmps31]
  refine wpc_unroll 3 (fun k => ?_)
  simp
  refine guardK_cases (fun h0 => ?_) (fun h0 => ?_) <;> simp [h0] <;> simp at h0
  · exact endA_eq (by simp [fits]; omega) (by simp)
  refine condK_cases (fun h1 => ?_) (fun h1 => ?_) <;> simp [h1] <;> simp at h1
  · exact endA_eq (by simp [fits]; omega) (by simp)
  refine unroll_next (fun k1 => ?_)
  simp
  refine guardK_cases (fun h2 => ?_) (fun h2 => ?_) <;> simp [h2] <;> simp at h2
  · exact endA_eq (by simp [fits]; omega) (by simp)
  refine condK_cases (fun h3 => ?_) (fun h3 => ?_) <;> simp [h3] <;> simp at h3
  · exact endA_eq (by simp [fits]; omega) (by simp)
  refine unroll_next (fun k2 => ?_)
  simp
  refine guardK_cases (fun h4 => ?_) (fun h4 => ?_) <;> simp [h4] <;> simp at h4
  · exact endA_eq (by simp [fits]; omega) (by simp)
  refine condK_cases (fun h5 => ?_) (fun h5 => ?_) <;> simp [h5] <;> simp at h5
  · exact endA_eq (by simp [fits]; omega) (by simp)
  refine unroll_next (fun k3 => ?_)
  simp
  exact endA_eq (by simp [fits]; omega) (by simp)
def dA (q : J3) : Dr := compose ⟨1, 0, 0⟩ q.a
def dB (q : J3) : Dr := compose (dA q) q.b
def dC (q : J3) : Dr := compose (dB q) q.c
abbrev dsav (q : J3) : AV := .agg [.int .i64 (dA q).x, .int .i64 (dA q).y, .int .i64 (dA q).n, .int .i64 (dB q).x, .int .i64 (dB q).y, .int .i64 (dB q).n, .int .i64 (dC q).x, .int .i64 (dC q).y, .int .i64 (dC q).n]
theorem add1_pure (q : J3) : Pure Tryz.prog 120 [.agg [.int .i64 1, .int .i64 0, .int .i64 0], .int .i64 q.a] (dA q).av := Add_pure ⟨1, 0, 0⟩ q.a
theorem add2_pure (q : J3) : Pure Tryz.prog 120 [(dA q).av, .int .i64 q.b] (dB q).av := Add_pure (dA q) q.b
theorem add3_pure (q : J3) : Pure Tryz.prog 120 [(dB q).av, .int .i64 q.c] (dC q).av := Add_pure (dB q) q.c
theorem compose1_pure (q : J3) : Pure Tryz.prog 63 [.agg [.int .i64 1, .int .i64 0, .int .i64 0], .int .i64 q.a] (dA q).av := Compose_pure ⟨1, 0, 0⟩ q.a
theorem compose2_pure (q : J3) : Pure Tryz.prog 63 [(dA q).av, .int .i64 q.b] (dB q).av := Compose_pure (dA q) q.b
theorem compose3_pure (q : J3) : Pure Tryz.prog 63 [(dB q).av, .int .i64 q.c] (dC q).av := Compose_pure (dB q) q.c
theorem dirs_pure (a : Ar) (q : J3) : Pure Tryz.prog 95 [a.av, q.av] (dsav q) := by
  refine pure_val fun σ ns _ => ?_; refine acalls_of_wpc Tryz.mixed Tryz.dr95 Tryz.func95 rfl (Tryz.fit95 _ rfl) Tryz.en95 (fun hσ => ?_); simp [Tryz.ntmps95]
  refine Pure.use_le (add1_pure q) ?_
  simp
  refine Pure.use_le (add2_pure q) ?_
  simp
  refine callT_le (add3_pure q) ?_
  simp
  exact endA_eq (by simp) (by simp)
theorem linkDirections_pure (a : Ar) (q : J3) : Pure Tryz.prog 38 [a.av, q.av] (dsav q) := by
  refine pure_val fun σ ns _ => ?_; refine acalls_of_wpc Tryz.mixed Tryz.dr38 Tryz.func38 rfl (Tryz.fit38 _ rfl) Tryz.en38 (fun hσ => ?_); simp [Tryz.ntmps38]
  refine wpc_unroll 3 (fun k => ?_)
  simp
  refine Pure.use_le (compose1_pure q) ?_
  simp
  refine unroll_next (fun k1 => ?_)
  simp
  refine Pure.use_le (compose2_pure q) ?_
  simp
  refine unroll_next (fun k1 => ?_)
  simp
  refine Pure.use_le (compose3_pure q) ?_
  simp
  refine unroll_next (fun k1 => ?_)
  simp
  exact endA_eq (by simp) (by simp)
def small (q : J3) : Bool := decide (-1000 ≤ q.a ∧ q.a ≤ 1000) && decide (-1000 ≤ q.b ∧ q.b ≤ 1000) && decide (-1000 ≤ q.c ∧ q.c ≤ 1000)
@[simp] theorem w64_lo : IntKind.wrap .i64 (-1000) = -1000 := by decide
@[simp] theorem w64_hi : IntKind.wrap .i64 1000 = 1000 := by decide
def J3.lt (p q : J3) : Prop := p.a < q.a ∨ (p.a = q.a ∧ (p.b < q.b ∨ (p.b = q.b ∧ p.c < q.c)))
instance (p q : J3) : Decidable (p.lt q) := by unfold J3.lt; infer_instance
/-- The larger of two. -/
def mx (a b : Int) : Int := if a < b then b else a
theorem mx_eq (a b : Int) : (if a < b then b else a) = mx a b := rfl
def dist (p q : J3) : Int := mx (p.a - q.a) (q.a - p.a) + mx (p.b - q.b) (q.b - p.b) + mx (p.c - q.c) (q.c - p.c)
theorem small_spec {q : J3} (h : small q = true) : (-1000 ≤ q.a ∧ q.a ≤ 1000) ∧ (-1000 ≤ q.b ∧ q.b ≤ 1000) ∧ -1000 ≤ q.c ∧ q.c ≤ 1000 := by
  simp [small] at h; exact ⟨h.1.1, h.1.2, h.2⟩
theorem distance_pure (p q : J3) (hp : small p = true) (hq : small q = true) : Pure Tryz.prog 141 [p.av, q.av] (.int .i64 (dist p q)) := by
  have h1 := small_spec hp
  have h2 := small_spec hq
  obtain ⟨p0, p1, p2⟩ := p
  obtain ⟨q0, q1, q2⟩ := q
  simp only at h1 h2
  have w1 : ∀ x y : Int, -1000 ≤ x → x ≤ 1000 → -1000 ≤ y → y ≤ 1000 → IntKind.wrap .i64 (x - y) = x - y := fun x y _ _ _ _ => wrap64 (by omega) (by omega)
  have a1 := w1 p0 q0 (by omega) (by omega) (by omega) (by omega)
  have a2 := w1 p1 q1 (by omega) (by omega) (by omega) (by omega)
  have a3 := w1 p2 q2 (by omega) (by omega) (by omega) (by omega)
  have b1 := w1 q0 p0 (by omega) (by omega) (by omega) (by omega)
  have b2 := w1 q1 p1 (by omega) (by omega) (by omega) (by omega)
  have b3 := w1 q2 p2 (by omega) (by omega) (by omega) (by omega)
  refine pure_val fun σ ns _ => ?_; refine acalls_of_wpc Tryz.mixed Tryz.dr141 Tryz.func141 rfl (Tryz.fit141 _ rfl) Tryz.en141 (fun hσ => ?_); simp [Tryz.ntmps141]
  refine wpc_unroll 3 (fun k => ?_)
  have c1 : -2000 ≤ mx (p0 - q0) (q0 - p0) ∧ mx (p0 - q0) (q0 - p0) ≤ 2000 := by unfold mx; split <;> omega
  have c2 : -2000 ≤ mx (p1 - q1) (q1 - p1) ∧ mx (p1 - q1) (q1 - p1) ≤ 2000 := by unfold mx; split <;> omega
  have c3 : -2000 ≤ mx (p2 - q2) (q2 - p2) ∧ mx (p2 - q2) (q2 - p2) ≤ 2000 := by unfold mx; split <;> omega
  have d1 : IntKind.wrap .i64 (mx (p0 - q0) (q0 - p0)) = mx (p0 - q0) (q0 - p0) := wrap64 (by omega) (by omega)
  have d2 : IntKind.wrap .i64 (mx (p0 - q0) (q0 - p0) + mx (p1 - q1) (q1 - p1)) = mx (p0 - q0) (q0 - p0) + mx (p1 - q1) (q1 - p1) := wrap64 (by omega) (by omega)
  have d3 : IntKind.wrap .i64 (mx (p0 - q0) (q0 - p0) + mx (p1 - q1) (q1 - p1) + mx (p2 - q2) (q2 - p2)) = mx (p0 - q0) (q0 - p0) + mx (p1 - q1) (q1 - p1) + mx (p2 - q2) (q2 - p2) := wrap64 (by omega) (by omega)
  simp [a1, b1, mx_eq, d1]
  refine unroll_next (fun k1 => ?_)
  simp [a2, b2, mx_eq, d2]
  refine unroll_next (fun k2 => ?_)
  simp [a3, b3, mx_eq, d3]
  refine unroll_next (fun k3 => ?_)
  simp
  exact endA_eq (by simp [dist]) (by simp)
theorem far_pure (p q : J3) (hp : small p = true) (hq : small q = true) : Pure Tryz.prog 144 [p.av, q.av] (.int .i64 (dist p q)) := by
  have h1 := small_spec hp
  have h2 := small_spec hq
  obtain ⟨p0, p1, p2⟩ := p
  obtain ⟨q0, q1, q2⟩ := q
  simp only at h1 h2
  refine pure_val fun σ ns _ => ?_; refine acalls_of_wpc Tryz.mixed Tryz.dr144 Tryz.func144 rfl (Tryz.fit144 _ rfl) Tryz.en144 (fun hσ => ?_); simp [Tryz.ntmps144]
  refine wpc_unroll 3 (fun k => ?_)
  simp
  have e1 : ∀ x y : Int, y < x → mx (x - y) (y - x) = x - y := fun x y h => if_neg (by omega)
  have e2 : ∀ x y : Int, x ≤ y → mx (x - y) (y - x) = y - x := fun x y h => by unfold mx; split <;> omega
  have w : ∀ s x y : Int, -10000 ≤ s → s ≤ 10000 → -1000 ≤ x → x ≤ 1000 → -1000 ≤ y → y ≤ 1000 → IntKind.wrap .i64 (IntKind.wrap .i64 (s + x) - y) = s + (x - y) := fun s x y _ _ _ _ _ _ => by
    rw [wrap64 (n := s + x) (by omega) (by omega), wrap64 (by omega) (by omega)]; omega
  have w' : ∀ x y : Int, -1000 ≤ x → x ≤ 1000 → -1000 ≤ y → y ≤ 1000 → IntKind.wrap .i64 (IntKind.wrap .i64 x - y) = x - y := fun x y _ _ _ _ => by
    rw [wrap64 (n := x) (by omega) (by omega), wrap64 (by omega) (by omega)]
  refine condK_cases (fun h3 => ?_) (fun h3 => ?_) <;> simp [h3] <;> simp at h3 <;> (refine unroll_next (fun k1 => ?_)) <;> simp <;>
    (refine condK_cases (fun h4 => ?_) (fun h4 => ?_) <;> simp [h4] <;> simp at h4 <;> (refine unroll_next (fun k2 => ?_)) <;> simp <;>
      (refine condK_cases (fun h5 => ?_) (fun h5 => ?_) <;> simp [h5] <;> simp at h5 <;> (refine unroll_next (fun k3 => ?_)) <;> simp))
  all_goals
    refine endA_eq (congrArg (AV.int .i64) ?_) (by simp)
    simp (disch := omega) only [w', w]
    simp only [dist]
    first | rw [e1 _ _ h3] | rw [e2 _ _ h3]
    first | rw [e1 _ _ h4] | rw [e2 _ _ h4]
    first | rw [e1 _ _ h5] | rw [e2 _ _ h5]
end Go.Proofs

/- Walks of the points of an arm, and of its validity. -/
set_option linter.unusedVariables false
set_option linter.unusedSimpArgs false
set_option maxRecDepth 100000
namespace Go.Proofs
open Go Go.Abs
attribute [local irreducible] wpc aSeq awAny endA guardK condK CallK callT aPlan onlyL takeL aeffK takeE loopG bodyA thenA inBlockA planK roundG assignG bodyI endI YieldK unrollG
theorem dA_valid (q : J3) : valid (dA q) = true ∧ (dA q).n = 1 := by
  have := compose_valid valid_100 (by simp) q.a
  exact ⟨this.1, by rw [dA, this.2]; rfl⟩
theorem dB_valid (q : J3) : valid (dB q) = true ∧ (dB q).n = 2 := by
  have h := dA_valid q
  have := compose_valid h.1 (by omega) q.b
  exact ⟨this.1, by rw [dB, this.2, h.2]; rfl⟩
theorem dC_valid (q : J3) : valid (dC q) = true ∧ (dC q).n = 3 := by
  have h := dB_valid q
  have := compose_valid h.1 (by omega) q.c
  exact ⟨this.1, by rw [dC, this.2, h.2]; rfl⟩
/-- How far an offset leads. -/
theorem off40 {d : Dr} (h : valid d = true) {n : Int} (hn : 0 ≤ n ∧ n ≤ 40) : (-175760000 ≤ (offset d n).1 ∧ (offset d n).1 ≤ 175760000) ∧ -175760000 ≤ (offset d n).2 ∧ (offset d n).2 ≤ 175760000 := by
  have hv := valid_spec h
  have hr := rad_bound d
  have hu := unit_bound d hv.1
  have key : ∀ x : Int, -rad d ≤ x → x ≤ rad d → -175760000 ≤ n * (4394000 / rad d) * x ∧ n * (4394000 / rad d) * x ≤ 175760000 := by
    intro x h1 h2
    generalize 4394000 / rad d = m at hu
    have a1 := mul_bound (a := m) (b := x) (A := m) (B := rad d) (by omega) (by omega) (by omega) (by omega)
    rw [hu.2.2.2] at a1
    have a2 := mul_bound (a := n) (b := m * x) (A := 40) (B := 4394000) (by omega) (by omega) (by omega) (by omega)
    rw [Int.mul_assoc]
    omega
  exact ⟨key _ hv.2.1.1 hv.2.1.2, key _ hv.2.2.1.1 hv.2.2.1.2⟩
/-- A valid arm. -/
def right (a : Ar) : Bool := decide (1 ≤ a.wide ∧ a.wide ≤ 4) && decide (a.base.1 % 16 = 0 ∧ a.base.2 % 16 = 0) &&
  decide ((1 ≤ a.lens.a ∧ a.lens.a ≤ 40) ∧ (1 ≤ a.lens.b ∧ a.lens.b ≤ 40) ∧ 1 ≤ a.lens.c ∧ a.lens.c ≤ 40) &&
  decide ((-17 ≤ a.low.a ∧ a.low.a ≤ a.high.a ∧ a.high.a ≤ 18) ∧ (-17 ≤ a.low.b ∧ a.low.b ≤ a.high.b ∧ a.high.b ≤ 18) ∧ -17 ≤ a.low.c ∧ a.low.c ≤ a.high.c ∧ a.high.c ≤ 18) &&
  decide ((-439400000 ≤ a.base.1 - (a.wide + a.lens.a + a.lens.b + a.lens.c) * 4394000 ∧ a.base.1 + (a.wide + a.lens.a + a.lens.b + a.lens.c) * 4394000 ≤ 439400000) ∧
    -439400000 ≤ a.base.2 - (a.wide + a.lens.a + a.lens.b + a.lens.c) * 4394000 ∧ a.base.2 + (a.wide + a.lens.a + a.lens.b + a.lens.c) * 4394000 ≤ 439400000)
structure RightP (a : Ar) : Prop where
  lens : (1 ≤ a.lens.a ∧ a.lens.a ≤ 40) ∧ (1 ≤ a.lens.b ∧ a.lens.b ≤ 40) ∧ 1 ≤ a.lens.c ∧ a.lens.c ≤ 40
  low : -17 ≤ a.low.a ∧ -17 ≤ a.low.b ∧ -17 ≤ a.low.c
  high : a.high.a ≤ 18 ∧ a.high.b ≤ 18 ∧ a.high.c ≤ 18
  rg : a.low.a ≤ a.high.a ∧ a.low.b ≤ a.high.b ∧ a.low.c ≤ a.high.c
  base : (-439400000 ≤ a.base.1 ∧ a.base.1 ≤ 439400000) ∧ -439400000 ≤ a.base.2 ∧ a.base.2 ≤ 439400000
theorem right_spec {a : Ar} (h : right a = true) : RightP a := by
  simp [right] at h
  constructor <;> omega
def pA (a : Ar) (q : J3) : V2 := a.base.add (offset (dA q) a.lens.a)
def pB (a : Ar) (q : J3) : V2 := (pA a q).add (offset (dB q) a.lens.b)
def pC (a : Ar) (q : J3) : V2 := (pB a q).add (offset (dC q) a.lens.c)
theorem points_ok {a : Ar} (h : RightP a) (q : J3) : a.base.ok ∧ (pA a q).ok ∧ (pB a q).ok ∧ (pC a q).ok ∧ (offset (dA q) a.lens.a).ok ∧ (offset (dB q) a.lens.b).ok ∧ (offset (dC q) a.lens.c).ok := by
  have hl := h.lens
  have hb := h.base
  have h1 := off40 (dA_valid q).1 (n := a.lens.a) (by omega)
  have h2 := off40 (dB_valid q).1 (n := a.lens.b) (by omega)
  have h3 := off40 (dC_valid q).1 (n := a.lens.c) (by omega)
  unfold V2.ok pC pB pA V2.add
  simp only
  omega
abbrev psav (a : Ar) (q : J3) : AV := .agg [.int .i64 a.base.1, .int .i64 a.base.2, .int .i64 (pA a q).1, .int .i64 (pA a q).2, .int .i64 (pB a q).1, .int .i64 (pB a q).2, .int .i64 (pC a q).1, .int .i64 (pC a q).2]
section
variable {a : Ar} (h : RightP a) (q : J3)
include h
theorem fineA : Pure Tryz.prog 119 [(dA q).av, .int .i64 a.lens.a] (offset (dA q) a.lens.a).av := Fine_pure _ _ (dA_valid q).1 (by have := h.lens; omega)
theorem fineB : Pure Tryz.prog 119 [(dB q).av, .int .i64 a.lens.b] (offset (dB q) a.lens.b).av := Fine_pure _ _ (dB_valid q).1 (by have := h.lens; omega)
theorem fineC : Pure Tryz.prog 119 [(dC q).av, .int .i64 a.lens.c] (offset (dC q) a.lens.c).av := Fine_pure _ _ (dC_valid q).1 (by have := h.lens; omega)
theorem offA : Pure Tryz.prog 39 [(dA q).av, .int .i64 a.lens.a] (offset (dA q) a.lens.a).av := Offset_pure _ _ (dA_valid q).1 (by have := h.lens; omega)
theorem offB : Pure Tryz.prog 39 [(dB q).av, .int .i64 a.lens.b] (offset (dB q) a.lens.b).av := Offset_pure _ _ (dB_valid q).1 (by have := h.lens; omega)
theorem offC : Pure Tryz.prog 39 [(dC q).av, .int .i64 a.lens.c] (offset (dC q) a.lens.c).av := Offset_pure _ _ (dC_valid q).1 (by have := h.lens; omega)
theorem plusA : Pure Tryz.prog 118 [a.base.av, (offset (dA q) a.lens.a).av] (pA a q).av := have := points_ok h q; plus_pure _ _ this.1 this.2.2.2.2.1
theorem plusB : Pure Tryz.prog 118 [(pA a q).av, (offset (dB q) a.lens.b).av] (pB a q).av := have := points_ok h q; plus_pure _ _ this.2.1 this.2.2.2.2.2.1
theorem plusC : Pure Tryz.prog 118 [(pB a q).av, (offset (dC q) a.lens.c).av] (pC a q).av := have := points_ok h q; plus_pure _ _ this.2.2.1 this.2.2.2.2.2.2
end
set_option maxHeartbeats 4000000 in
theorem points_pure (a : Ar) (q : J3) (h : RightP a) : Pure Tryz.prog 94 [a.av, q.av] (psav a q) := by
  refine pure_val fun σ ns _ => ?_; refine acalls_of_wpc Tryz.mixed Tryz.dr94 Tryz.func94 rfl (Tryz.fit94 _ rfl) Tryz.en94 (fun hσ => ?_); simp [Tryz.ntmps94]
  refine Pure.use_le (dirs_pure a q) ?_
  simp
  refine wpc_unroll 3 (fun k => ?_)
  simp
  refine callT_le (fineA h q) ?_
  simp
  refine Pure.use_le (plusA h q) ?_
  simp
  refine unroll_next (fun k1 => ?_)
  simp
  refine callT_le (fineB h q) ?_
  simp
  refine Pure.use_le (plusB h q) ?_
  simp
  refine unroll_next (fun k1 => ?_)
  simp
  refine callT_le (fineC h q) ?_
  simp
  refine Pure.use_le (plusC h q) ?_
  simp
  refine unroll_next (fun k1 => ?_)
  simp
  exact endA_eq (by simp) (by simp)
theorem on_acalls (p r : V2) (hp : p.ok) (hr : r.ok) {σ : Store} {ns n : Nm} (hn : σ n = some (.var [.int .i64 r.1, .int .i64 r.2])) : ACalls Tryz.prog 36 [p.av, .ptr n 0] σ ns fun e σ' => e = .ret (r.add p).av ∧ σ' = σ.up n (.var [.int .i64 (r.add p).1, .int .i64 (r.add p).2]) := by
  refine acalls_val fun ns _ hns => ?_; refine acalls_of_wpc Tryz.mixed Tryz.dr36 Tryz.func36 rfl (Tryz.fit36 _ rfl) Tryz.en36 (fun hσ => ?_); simp [Tryz.ntmps36]
  have hu : ∀ m : Nm, m.under ns = true → ¬ n = m := fun m hm e => by subst e; rw [hσ n hm] at hn; cases hn
  have u0 := hu ((ns.sub 0).sub 0) (by simp [Nm.under])
  have u1 := hu ((ns.sub 0).sub 1) (by simp [Nm.under])
  have v0 : ¬ (ns.sub 0).sub 0 = n := fun e => u0 e.symm
  have v1 : ¬ (ns.sub 0).sub 1 = n := fun e => u1 e.symm
  have hf : n.under ns = false := by cases hh : n.under ns with | false => rfl | true => exact (hu n hh rfl).elim
  simp [u0, u1, v0, v1, hn]
  refine Pure.use_le (gAdd_pure r p hr hp) ?_
  simp [u0, u1, v0, v1, hn]
  refine endA_intro (StWeak.of_eq ?_) ⟨rfl, rfl⟩
  rw [restoreS_up_own (by simp [Nm.under]), restoreS_up_out hf]
  simp
section
variable {a : Ar} (h : RightP a) (q : J3) {σ : Store} {ns n : Nm}
include h
theorem onA (hn : σ n = some (.var [.int .i64 a.base.1, .int .i64 a.base.2])) : ACalls Tryz.prog 36 [(offset (dA q) a.lens.a).av, .ptr n 0] σ ns fun e σ' => e = .ret (pA a q).av ∧ σ' = σ.up n (.var [.int .i64 (pA a q).1, .int .i64 (pA a q).2]) := have := points_ok h q; on_acalls _ _ this.2.2.2.2.1 this.1 hn
theorem onB (hn : σ n = some (.var [.int .i64 (pA a q).1, .int .i64 (pA a q).2])) : ACalls Tryz.prog 36 [(offset (dB q) a.lens.b).av, .ptr n 0] σ ns fun e σ' => e = .ret (pB a q).av ∧ σ' = σ.up n (.var [.int .i64 (pB a q).1, .int .i64 (pB a q).2]) := have := points_ok h q; on_acalls _ _ this.2.2.2.2.2.1 this.2.1 hn
theorem onC (hn : σ n = some (.var [.int .i64 (pB a q).1, .int .i64 (pB a q).2])) : ACalls Tryz.prog 36 [(offset (dC q) a.lens.c).av, .ptr n 0] σ ns fun e σ' => e = .ret (pC a q).av ∧ σ' = σ.up n (.var [.int .i64 (pC a q).1, .int .i64 (pC a q).2]) := have := points_ok h q; on_acalls _ _ this.2.2.2.2.2.2 this.2.2.1 hn
end
set_option maxHeartbeats 4000000 in
theorem jointPoints_pure (a : Ar) (q : J3) (h : RightP a) : Pure Tryz.prog 22 [a.av, q.av] (psav a q) := by
  refine pure_val fun σ ns _ => ?_; refine acalls_of_wpc Tryz.mixed Tryz.dr22 Tryz.func22 rfl (Tryz.fit22 _ rfl) Tryz.en22 (fun hσ => ?_); simp [Tryz.ntmps22]
  refine Pure.use_le (linkDirections_pure a q) ?_
  simp
  refine wpc_unroll 3 (fun k => ?_)
  simp
  refine Pure.use_le (offA h q) ?_
  simp
  refine CallK.use (onA h q (by simp)) ?_
  simp
  refine unroll_next (fun k1 => ?_)
  simp
  refine Pure.use_le (offB h q) ?_
  simp
  refine CallK.use (onB h q (by simp)) ?_
  simp
  refine unroll_next (fun k2 => ?_)
  simp
  refine Pure.use_le (offC h q) ?_
  simp
  refine CallK.use (onC h q (by simp)) ?_
  simp
  refine unroll_next (fun k3 => ?_)
  simp
  exact endA_eq (by simp) (by simp)
def reaches (a : Ar) (q : J3) (at' : V2) (d : Dr) : Bool := decide (pC a q = at') && decide (dC q = d)
theorem reaches_eq (a : Ar) (q : J3) (at' : V2) (d : Dr) : reaches a q at' d = (((pC a q).1 == at'.1 && (pC a q).2 == at'.2) && ((dC q).x == d.x && ((dC q).y == d.y && (dC q).n == d.n))) := by
  unfold reaches
  congr 1
  · rw [Bool.eq_iff_iff]; simp [Prod.ext_iff]
  · generalize dC q = e; obtain ⟨x, y, n⟩ := e; obtain ⟨x', y', n'⟩ := d
    rw [Bool.eq_iff_iff]; simp
theorem reaches_pure (a : Ar) (q : J3) (at' : V2) (d : Dr) (h : RightP a) : Pure Tryz.prog 145 [a.av, q.av, at'.av, d.av] (.bool (reaches a q at' d)) := by
  refine pure_val fun σ ns _ => ?_; refine acalls_of_wpc Tryz.mixed Tryz.dr145 Tryz.func145 rfl (Tryz.fit145 _ rfl) Tryz.en145 (fun hσ => ?_); simp [Tryz.ntmps145]
  refine Pure.use_le (points_pure a q h) ?_
  simp
  refine condK_cases (fun h1 => ?_) (fun h1 => ?_) <;> simp at h1
  · simp [h1]
    exact endA_eq (by rw [reaches_eq]; simp; omega) (by simp)
  · simp [h1]
    refine Pure.use_le (dirs_pure a q) ?_
    simp
    exact endA_eq (by rw [reaches_eq]; simp [h1, Bool.and_assoc]) (by simp)
theorem size_pure (n : Int) (h : -1000000000 ≤ n ∧ n ≤ 1000000000) : Pure Tryz.prog 66 [.int .i64 n] (.int .i64 (if n < 0 then -n else n)) := by
  refine pure_val fun σ ns _ => ?_; refine acalls_of_wpc Tryz.mixed Tryz.dr66 Tryz.func66 rfl (Tryz.fit66 _ rfl) Tryz.en66 (fun hσ => ?_); simp [Tryz.ntmps66]
  refine condK_cases (fun h1 => ?_) (fun h1 => ?_) <;> simp at h1
  · simp (disch := omega) [wrap64]
    exact endA_eq (by simp [h1]) (by simp)
  · simp
    exact endA_eq (by simp; omega) (by simp)
def near (v : V2) : Bool := decide (v.1 ≤ 1000000000) && decide (-1000000000 ≤ v.1) && decide (v.2 ≤ 1000000000) && decide (-1000000000 ≤ v.2)
theorem far7_pure (a : Ar) : Pure Tryz.prog 65 [a.av] (.bool (!near a.base)) := by
  refine pure_val fun σ ns _ => ?_; refine acalls_of_wpc Tryz.mixed Tryz.dr65 Tryz.func65 rfl (Tryz.fit65 _ rfl) Tryz.en65 (fun hσ => ?_); simp [Tryz.ntmps65]
  repeat' first
    | (refine guardK_cases (fun h => ?_) (fun h => ?_) <;> simp [h])
  all_goals exact endA_eq (by first | (simp_all [near]; done) | (simp_all [near]; omega) | (simp_all [near]; rw [Bool.eq_iff_iff]; simp)) (by simp)
end Go.Proofs

/- The walk of an arm's validity, and of what the laws take. -/
set_option linter.unusedVariables false
set_option linter.unusedSimpArgs false
set_option maxRecDepth 100000
namespace Go.Proofs
open Go Go.Abs
attribute [local irreducible] wpc aSeq awAny endA guardK condK CallK callT aPlan onlyL takeL aeffK takeE loopG bodyA thenA inBlockA planK roundG assignG bodyI endI YieldK unrollG
theorem tmod16 (x : Int) : x.tmod 16 = 0 ↔ x % 16 = 0 := by
  rw [← Int.dvd_iff_tmod_eq_zero, Int.dvd_iff_emod_eq_zero]
@[simp] theorem w64_4 : IntKind.wrap .i64 4 = 4 := by decide
@[simp] theorem w64_16 : IntKind.wrap .i64 16 = 16 := by decide
@[simp] theorem w64_18 : IntKind.wrap .i64 18 = 18 := by decide
@[simp] theorem w64_40 : IntKind.wrap .i64 40 = 40 := by decide
@[simp] theorem w64_m17 : IntKind.wrap .i64 (-17) = -17 := by decide
@[simp] theorem w64_unit : IntKind.wrap .i64 4394000 = 4394000 := by decide
@[simp] theorem w64_ext : IntKind.wrap .i64 439400000 = 439400000 := by decide
theorem near_spec {v : V2} : near v = true ↔ (-1000000000 ≤ v.1 ∧ v.1 ≤ 1000000000) ∧ -1000000000 ≤ v.2 ∧ v.2 ≤ 1000000000 := by simp [near]; omega
theorem right_far {a : Ar} (h : near a.base = false) : right a = false := by
  cases hr : right a with
  | false => rfl
  | true =>
    have := (right_spec hr).base
    rw [near_spec.2 (by omega)] at h; cases h
set_option maxHeartbeats 16000000 in
theorem right7_pure (a : Ar) : Pure Tryz.prog 41 [a.av] (.bool (right a)) := by
  refine pure_val fun σ ns _ => ?_; refine acalls_of_wpc Tryz.mixed Tryz.dr41 Tryz.func41 rfl (Tryz.fit41 _ rfl) Tryz.en41 (fun hσ => ?_); simp [Tryz.ntmps41]
  refine Pure.use_le (far7_pure a) ?_
  simp
  refine guardK_cases (fun h0 => ?_) (fun h0 => ?_) <;> simp [h0] <;> simp at h0
  · exact endA_eq (by simp [right_far h0]) (by simp)
  rw [near_spec] at h0
  refine guardK_cases (fun h1 => ?_) (fun h1 => ?_) <;> simp [h1] <;> simp at h1
  · exact endA_eq (by simp [right]; omega) (by simp)
  refine guardK_cases (fun h2 => ?_) (fun h2 => ?_) <;> simp [h2] <;> simp at h2
  · exact endA_eq (by simp [right]; omega) (by simp)
  refine guardK_cases (fun h3 => ?_) (fun h3 => ?_) <;> simp [h3] <;> simp [tmod16] at h3
  · exact endA_eq (by simp [right]; omega) (by simp)
  refine condK_cases (fun h4 => ?_) (fun h4 => ?_) <;> simp [h4] <;> simp [tmod16] at h4
  · exact endA_eq (by simp [right]; omega) (by simp)
  refine wpc_unroll 3 (fun k => ?_)
  as_aux_lemma =>
    simp
    refine guardK_cases (fun h => ?_) (fun h => ?_) <;> simp [h] <;> simp at h
    · exact endA_eq (by simp [right]; omega) (by simp)
    refine guardK_cases (fun h => ?_) (fun h => ?_) <;> simp [h] <;> simp at h
    · exact endA_eq (by simp [right]; omega) (by simp)
    refine guardK_cases (fun h => ?_) (fun h => ?_) <;> simp [h] <;> simp at h
    · exact endA_eq (by simp [right]; omega) (by simp)
    refine guardK_cases (fun h => ?_) (fun h => ?_) <;> simp [h] <;> simp at h
    · exact endA_eq (by simp [right]; omega) (by simp)
    refine guardK_cases (fun h => ?_) (fun h => ?_) <;> simp [h] <;> simp at h
    · exact endA_eq (by simp [right]; omega) (by simp)
    refine guardK_cases (fun h => ?_) (fun h => ?_) <;> simp [h] <;> simp at h
    · exact endA_eq (by simp [right]; omega) (by simp)
    refine condK_cases (fun h => ?_) (fun h => ?_) <;> simp [h] <;> simp at h
    · exact endA_eq (by simp [right]; omega) (by simp)
    have s1 : IntKind.wrap .i64 (a.wide + a.lens.a) = a.wide + a.lens.a := wrap64 (by omega) (by omega)
    simp [s1]
    refine unroll_next (fun k1 => ?_)
    as_aux_lemma =>
      simp
      refine guardK_cases (fun h => ?_) (fun h => ?_) <;> simp [h] <;> simp at h
      · exact endA_eq (by simp [right]; omega) (by simp)
      refine guardK_cases (fun h => ?_) (fun h => ?_) <;> simp [h] <;> simp at h
      · exact endA_eq (by simp [right]; omega) (by simp)
      refine guardK_cases (fun h => ?_) (fun h => ?_) <;> simp [h] <;> simp at h
      · exact endA_eq (by simp [right]; omega) (by simp)
      refine guardK_cases (fun h => ?_) (fun h => ?_) <;> simp [h] <;> simp at h
      · exact endA_eq (by simp [right]; omega) (by simp)
      refine guardK_cases (fun h => ?_) (fun h => ?_) <;> simp [h] <;> simp at h
      · exact endA_eq (by simp [right]; omega) (by simp)
      refine guardK_cases (fun h => ?_) (fun h => ?_) <;> simp [h] <;> simp at h
      · exact endA_eq (by simp [right]; omega) (by simp)
      refine condK_cases (fun h => ?_) (fun h => ?_) <;> simp [h] <;> simp at h
      · exact endA_eq (by simp [right]; omega) (by simp)
      have s2 : IntKind.wrap .i64 (a.wide + a.lens.a + a.lens.b) = a.wide + a.lens.a + a.lens.b := wrap64 (by omega) (by omega)
      simp [s2]
      refine unroll_next (fun k2 => ?_)
      as_aux_lemma =>
        simp
        refine guardK_cases (fun h => ?_) (fun h => ?_) <;> simp [h] <;> simp at h
        · exact endA_eq (by simp [right]; omega) (by simp)
        refine guardK_cases (fun h => ?_) (fun h => ?_) <;> simp [h] <;> simp at h
        · exact endA_eq (by simp [right]; omega) (by simp)
        refine guardK_cases (fun h => ?_) (fun h => ?_) <;> simp [h] <;> simp at h
        · exact endA_eq (by simp [right]; omega) (by simp)
        refine guardK_cases (fun h => ?_) (fun h => ?_) <;> simp [h] <;> simp at h
        · exact endA_eq (by simp [right]; omega) (by simp)
        refine guardK_cases (fun h => ?_) (fun h => ?_) <;> simp [h] <;> simp at h
        · exact endA_eq (by simp [right]; omega) (by simp)
        refine guardK_cases (fun h => ?_) (fun h => ?_) <;> simp [h] <;> simp at h
        · exact endA_eq (by simp [right]; omega) (by simp)
        refine condK_cases (fun h => ?_) (fun h => ?_) <;> simp [h] <;> simp at h
        · exact endA_eq (by simp [right]; omega) (by simp)
        have s3 : IntKind.wrap .i64 (a.wide + a.lens.a + a.lens.b + a.lens.c) = a.wide + a.lens.a + a.lens.b + a.lens.c := wrap64 (by omega) (by omega)
        simp [s3]
        refine unroll_next (fun k3 => ?_)
        as_aux_lemma =>
          simp
          refine Pure.use_le (size_pure a.base.1 (by omega)) ?_
          have e1 : (if a.base.1 < 0 then -a.base.1 else a.base.1) = max a.base.1 (-a.base.1) := by split <;> omega
          have e2 : (if a.base.2 < 0 then -a.base.2 else a.base.2) = max a.base.2 (-a.base.2) := by split <;> omega
          have z1 : 0 ≤ max a.base.1 (-a.base.1) ∧ max a.base.1 (-a.base.1) ≤ 1000000000 := by omega
          have z2 : 0 ≤ max a.base.2 (-a.base.2) ∧ max a.base.2 (-a.base.2) ≤ 1000000000 := by omega
          have s4 : IntKind.wrap .i64 ((a.wide + a.lens.a + a.lens.b + a.lens.c) * 4394000) = (a.wide + a.lens.a + a.lens.b + a.lens.c) * 4394000 := wrap64 (by omega) (by omega)
          have s5 : IntKind.wrap .i64 (max a.base.1 (-a.base.1) + (a.wide + a.lens.a + a.lens.b + a.lens.c) * 4394000) = max a.base.1 (-a.base.1) + (a.wide + a.lens.a + a.lens.b + a.lens.c) * 4394000 := wrap64 (by omega) (by omega)
          have s6 : IntKind.wrap .i64 (max a.base.2 (-a.base.2) + (a.wide + a.lens.a + a.lens.b + a.lens.c) * 4394000) = max a.base.2 (-a.base.2) + (a.wide + a.lens.a + a.lens.b + a.lens.c) * 4394000 := wrap64 (by omega) (by omega)
          rw [e1]
          simp [s4, s5]
          refine guardK_cases (fun h => ?_) (fun h => ?_) <;> simp [h] <;> simp at h
          · refine Pure.use_le (size_pure a.base.2 (by omega)) ?_
            rw [e2]
            simp [s4, s6]
            refine endA_eq (congrArg AV.bool ?_) (by simp)
            rw [Bool.eq_iff_iff]
            simp [right]
            omega
          · exact endA_eq (by simp [right]; omega) (by simp)
end Go.Proofs

/- The walk of the brute force. -/
set_option linter.unusedVariables false
set_option linter.unusedSimpArgs false
set_option maxRecDepth 100000
namespace Go.Proofs
open Go Go.Abs
theorem endA_weak {v v' : AV} {τ σ : Store} {ns : Nm} (hl : AVle v v') (hw : StWeak ns σ τ σ) : endA (some v) τ [] σ ns (fun e σ' => e = .ret v' ∧ σ' = σ) := ⟨rfl, v, rfl, v', σ, hl, hw, rfl, rfl⟩
attribute [local irreducible] wpc aSeq awAny endA guardK condK CallK callT aPlan onlyL takeL aeffK takeE loopG bodyA thenA inBlockA planK roundG assignG bodyI endI YieldK unrollG
/-- A slice that grows: none: nothing yet. -/
def gsl (c : Option Nm) (es : List (List AV)) : AV := match c with
  | none => .sl 0 [] .nil
  | some m => .sl 3 es (.tok m)
def gtok (c : Option Nm) : List (Nm × AObj) := match c with
  | none => []
  | some m => [(m, .tok)]
def gok (ns : Nm) (c : Option Nm) (n : List J3) : Prop := match c with
  | none => n = []
  | some m => m.under ns = true ∧ m ≠ (ns.sub 0).sub 0 ∧ m ≠ (ns.sub 0).sub 1 ∧ m ≠ (ns.sub 0).sub 2
def jcs (l : List J3) : List (List AV) := l.map J3.cells
@[simp] theorem jcs_nil : jcs [] = [] := rfl
@[simp] theorem jcs_len (l : List J3) : (jcs l).length = l.length := by simp [jcs]
theorem jcs_snoc (l : List J3) (q : J3) : jcs l ++ [[.int .i64 q.a, .int .i64 q.b, .int .i64 q.c]] = jcs (l ++ [q]) := by simp [jcs]
theorem gsl_unk {c : Option Nm} {ns : Nm} {l : List J3} (h : gok ns c l) : AVle (gsl c (jcs l)) (.sl 3 (jcs l) .unk) := by
  cases c with
  | none => simp only [gok] at h; subst h; exact .unk0
  | some m => exact .unk
theorem gsl_none {es : List (List AV)} : gsl none es = .sl 0 [] .nil := rfl
theorem gsl_some {m : Nm} {es : List (List AV)} : gsl (some m) es = .sl 3 es (.tok m) := rfl
@[simp] theorem upto_zero {lo : Int} : upto lo 0 = [] := rfl
theorem upto_succ (lo : Int) (n : Nat) : upto lo (n + 1) = upto lo n ++ [lo + n] := by
  unfold upto; rw [List.range_succ]; simp
theorem upto_length (lo : Int) (n : Nat) : (upto lo n).length = n := by simp [upto]
def all3 (a : Ar) (at' : V2) (d : Dr) (i j : Int) (n : Nat) : List J3 := ((upto a.low.c n).map fun k => J3.mk i j k).filter fun q => reaches a q at' d
def cnt (lo hi : Int) : Nat := (hi - lo + 1).toNat
def all2 (a : Ar) (at' : V2) (d : Dr) (i : Int) (n : Nat) : List J3 := (upto a.low.b n).flatMap fun j => all3 a at' d i j (cnt a.low.c a.high.c)
def all1 (a : Ar) (at' : V2) (d : Dr) (n : Nat) : List J3 := (upto a.low.a n).flatMap fun i => all2 a at' d i (cnt a.low.b a.high.b)
def all (a : Ar) (at' : V2) (d : Dr) : List J3 := all1 a at' d (cnt a.low.a a.high.a)
theorem all3_succ (a : Ar) (at' : V2) (d : Dr) (i j : Int) (n : Nat) : all3 a at' d i j (n + 1) = all3 a at' d i j n ++ (if reaches a ⟨i, j, a.low.c + n⟩ at' d = true then [⟨i, j, a.low.c + n⟩] else []) := by
  unfold all3; rw [upto_succ]; simp [List.filter_cons]
theorem all2_succ (a : Ar) (at' : V2) (d : Dr) (i : Int) (n : Nat) : all2 a at' d i (n + 1) = all2 a at' d i n ++ all3 a at' d i (a.low.b + n) (cnt a.low.c a.high.c) := by
  unfold all2; rw [upto_succ]; simp
theorem all1_succ (a : Ar) (at' : V2) (d : Dr) (n : Nat) : all1 a at' d (n + 1) = all1 a at' d n ++ all2 a at' d (a.low.a + n) (cnt a.low.b a.high.b) := by
  unfold all1; rw [upto_succ]; simp
theorem all3_len (a : Ar) (at' : V2) (d : Dr) (i j : Int) (n : Nat) : (all3 a at' d i j n).length ≤ n := by
  unfold all3; exact Nat.le_trans (List.length_filter_le _ _) (by simp [upto_length])
theorem flat_len {α β : Type} (f : α → List β) (k : Nat) (l : List α) (h : ∀ x, (f x).length ≤ k) : (l.flatMap f).length ≤ l.length * k := by
  induction l with
  | nil => simp
  | cons x l ih => simp only [List.flatMap_cons, List.length_append, List.length_cons]; have := h x; rw [Nat.succ_mul]; omega
theorem all2_len (a : Ar) (at' : V2) (d : Dr) (i : Int) (n : Nat) : (all2 a at' d i n).length ≤ n * cnt a.low.c a.high.c := by
  have := flat_len (fun j => all3 a at' d i j (cnt a.low.c a.high.c)) (cnt a.low.c a.high.c) (upto a.low.b n) (fun j => all3_len ..)
  rwa [upto_length] at this
theorem all1_len (a : Ar) (at' : V2) (d : Dr) (n : Nat) : (all1 a at' d n).length ≤ n * (cnt a.low.b a.high.b * cnt a.low.c a.high.c) := by
  have := flat_len (fun i => all2 a at' d i (cnt a.low.b a.high.b)) (cnt a.low.b a.high.b * cnt a.low.c a.high.c) (upto a.low.a n) (fun j => all2_len ..)
  rwa [upto_length] at this
theorem mul36 {x y X Y : Nat} (hx : x ≤ X) (hy : y ≤ Y) : x * y ≤ X * Y := Nat.mul_le_mul hx hy
abbrev boxes (ns : Nm) (a : Ar) (at' : V2) (d : Dr) : List (Nm × AObj) := [((ns.sub 0).sub 2, .var [.int .i64 d.x, .int .i64 d.y, .int .i64 d.n]), ((ns.sub 0).sub 1, .var [.int .i64 at'.1, .int .i64 at'.2]), ((ns.sub 0).sub 0, .var a.cells)]
/-- The store of a walk: the boxes, and the slice's token. -/
def gst (σ : Store) (ns : Nm) (a : Ar) (at' : V2) (d : Dr) (c : Option Nm) : Store := upL σ (gtok c ++ boxes ns a at' d)
section
variable {σ : Store} {ns : Nm} {a : Ar} {at' : V2} {d : Dr} {c : Option Nm} {n : List J3}
theorem gst_0 (h : gok ns c n) : gst σ ns a at' d c ((ns.sub 0).sub 0) = some (.var a.cells) := by
  cases c with
  | none => simp [gst, gtok]
  | some m => obtain ⟨h1, h2, h3, h4⟩ := h; simp [gst, gtok, Ne.symm h2]
theorem gst_1 (h : gok ns c n) : gst σ ns a at' d c ((ns.sub 0).sub 1) = some (.var [.int .i64 at'.1, .int .i64 at'.2]) := by
  cases c with
  | none => simp [gst, gtok]
  | some m => obtain ⟨h1, h2, h3, h4⟩ := h; simp [gst, gtok, Ne.symm h3]
theorem gst_2 (h : gok ns c n) : gst σ ns a at' d c ((ns.sub 0).sub 2) = some (.var [.int .i64 d.x, .int .i64 d.y, .int .i64 d.n]) := by
  cases c with
  | none => simp [gst, gtok]
  | some m => obtain ⟨h1, h2, h3, h4⟩ := h; simp [gst, gtok, Ne.symm h4]
theorem gst_tok {m : Nm} : gst σ ns a at' d (some m) m = some .tok := by simp [gst, gtok]
theorem gst_out (h : gok ns c n) {x : Nm} (hx : x.under ns = false) : gst σ ns a at' d c x = σ x := by
  have e : ∀ m : Nm, m.under ns = true → ¬ x = m := fun m hm e => by subst e; rw [hm] at hx; cases hx
  cases c with
  | none => simp [gst, gtok, Store.up_get, e _ (show ((ns.sub 0).sub 0).under ns = true by simp [Nm.under]), e _ (show ((ns.sub 0).sub 1).under ns = true by simp [Nm.under]), e _ (show ((ns.sub 0).sub 2).under ns = true by simp [Nm.under])]
  | some m => obtain ⟨h1, h2, h3, h4⟩ := h; simp [gst, gtok, Store.up_get, e _ h1, e _ (show ((ns.sub 0).sub 0).under ns = true by simp [Nm.under]), e _ (show ((ns.sub 0).sub 1).under ns = true by simp [Nm.under]), e _ (show ((ns.sub 0).sub 2).under ns = true by simp [Nm.under])]
end
theorem len_ok (a : Ar) (at' : V2) (d : Dr) (hNb : cnt a.low.b a.high.b ≤ 36) (hNc : cnt a.low.c a.high.c ≤ 36) (i j : Int) {n1 n2 n3 : Nat} (h1 : n1 ≤ cnt a.low.a a.high.a) (h2 : n2 ≤ cnt a.low.b a.high.b) (h3 : n3 ≤ cnt a.low.c a.high.c) (hNa : cnt a.low.a a.high.a ≤ 36) :
    (all1 a at' d n1).length + ((all2 a at' d i n2).length + (all3 a at' d i j n3).length) ≤ 50000 := by
  have a1 := all1_len a at' d n1
  have a2 := all2_len a at' d i n2
  have a3 := all3_len a at' d i j n3
  have b1 := mul36 (mul36 (Nat.le_trans h1 hNa) (Nat.le_refl 1)) (mul36 hNb hNc)
  have b2 := mul36 (Nat.le_trans h2 hNb) hNc
  rw [Nat.mul_one] at b1
  omega
theorem gst_weak {σ : Store} {ns : Nm} {a : Ar} {at' : V2} {d : Dr} {c : Option Nm} {n : List J3} (h : gok ns c n) : StWeak ns σ (gst σ ns a at' d c) σ := by
  refine StWeak.same ?_
  cases c with
  | none => simp [gst, gtok]
  | some m => simp [gst, gtok, h.1]
theorem gst_step {σ u : Store} {ns : Nm} {a : Ar} {at' : V2} {d : Dr} {n' : Nm} (hσ : ∀ n, n.under ns = true → σ n = none) (hn : n'.under ns = true) (hu : ∀ x, x.under ns = false → u x = σ x) (h0 : u ((ns.sub 0).sub 0) = some (.var a.cells)) (h1 : u ((ns.sub 0).sub 1) = some (.var [.int .i64 at'.1, .int .i64 at'.2])) (h2 : u ((ns.sub 0).sub 2) = some (.var [.int .i64 d.x, .int .i64 d.y, .int .i64 d.n])) (ht : u n' = some .tok) :
    StWk u (gst σ ns a at' d (some n')) := by
  refine StWk.own hσ _ ?_ hu
  intro p hp
  simp [gtok] at hp
  rcases hp with rfl | rfl | rfl | rfl
  · exact ⟨_, ht, .inl rfl⟩
  · exact ⟨_, h2, .inl rfl⟩
  · exact ⟨_, h1, .inl rfl⟩
  · exact ⟨_, h0, .inl rfl⟩
set_option maxHeartbeats 16000000 in
theorem all_pure (a : Ar) (at' : V2) (d : Dr) (h : RightP a) : Pure Tryz.prog 131 [a.av, at'.av, d.av] (.sl 3 (jcs (all a at' d)) .unk) := by
  have hlo := h.low
  have hhi := h.high
  have hrg := h.rg
  have hNa : cnt a.low.a a.high.a ≤ 36 := by unfold cnt; omega
  have hNb : cnt a.low.b a.high.b ≤ 36 := by unfold cnt; omega
  have hNc : cnt a.low.c a.high.c ≤ 36 := by unfold cnt; omega
  refine pure_val fun σ ns _ => ?_; refine acalls_of_wpc Tryz.mixed Tryz.dr131 Tryz.func131 rfl (Tryz.fit131 _ rfl) Tryz.en131 (fun hσ => ?_); simp [Tryz.ntmps131]
  refine wpc_loopN (α := Nat × Option Nm) (fun p => [(7, .any), (8, .any), (9, .any), (10, .any), (11, .any), (12, .any), (16, .any), (17, .any), (18, .any), (19, .any), (20, .any), (21, .any), (22, .any), (23, .any), (24, .any), (25, .any), (26, .any), (27, .any), (28, .any), (29, .any), (30, .any), (31, .any), (32, .any), (33, .any), (34, .any), (35, .any), (36, .any), (37, .any), (38, .any), (39, .any), (40, .any), (41, .any), (42, .any), (43, .any), (44, .any), (45, .any), (46, .any), (47, .any), (48, .any), (49, .any), (50, .any), (51, .any), (52, .any), (53, .any), (54, .any), (55, .any), (56, .any),  (7, gsl p.2 (jcs (all1 a at' d p.1))), (8, .int .i64 (a.low.a + p.1))]) (fun p => gst σ ns a at' d p.2) (fun p => cnt a.low.a a.high.a - p.1)
    (fun p => p.1 ≤ cnt a.low.a a.high.a ∧ gok ns p.2 (all1 a at' d p.1)) (0, none) ⟨by simp, rfl⟩ ?_ ?_ ?_
  · simp [gsl]
    (repeat' first | exact AVsle.nil | refine AVsle.cons (AVle.any _) ?_ | refine AVsle.cons (AVle.refl _) ?_ | refine AVsle.cons AVLe.le ?_)
  · simp [gst, gtok]
    exact .refl _
  rintro ⟨n1, c1⟩ k1 ⟨hn1, hc1⟩ hf1
  simp only at hn1 hc1 hf1
  have g0 := gst_0 (σ := σ) (a := a) (at' := at') (d := d) hc1
  simp [g0]
  refine condK_cases (fun hx1 => ?_) (fun hx1 => ?_) <;> simp at hx1
  · simp [g0]
    refine wpc_loopN (α := Nat × Option Nm) (fun p => [(7, .any), (9, .any), (10, .any), (11, .any), (12, .any), (26, .any), (27, .any), (28, .any), (29, .any), (30, .any), (31, .any), (32, .any), (33, .any), (34, .any), (35, .any), (36, .any), (37, .any), (38, .any), (39, .any), (40, .any), (41, .any), (42, .any), (43, .any), (44, .any), (45, .any), (46, .any), (47, .any), (48, .any), (49, .any), (50, .any), (51, .any), (52, .any), (53, .any), (54, .any), (55, .any), (56, .any),  (7, gsl p.2 (jcs (all1 a at' d n1 ++ all2 a at' d (a.low.a + n1) p.1))), (9, .int .i64 (a.low.b + p.1))]) (fun p => gst σ ns a at' d p.2) (fun p => cnt a.low.b a.high.b - p.1)
      (fun p => p.1 ≤ cnt a.low.b a.high.b ∧ gok ns p.2 (all1 a at' d n1 ++ all2 a at' d (a.low.a + n1) p.1)) (0, c1) ⟨by simp, by simpa [all2] using hc1⟩ ?_ (.refl _) ?_
    · simp [all2]
      (repeat' first | exact AVsle.nil | refine AVsle.cons (AVle.any _) ?_ | refine AVsle.cons (AVle.refl _) ?_ | refine AVsle.cons AVLe.le ?_)
    rintro ⟨n2, c2⟩ k2 ⟨hn2, hc2⟩ hf2
    simp only at hn2 hc2 hf2
    have g0 := gst_0 (σ := σ) (a := a) (at' := at') (d := d) hc2
    simp [g0]
    refine condK_cases (fun hx2 => ?_) (fun hx2 => ?_) <;> simp at hx2
    · simp [g0]
      refine wpc_loopN (α := Nat × Option Nm) (fun p => [(7, .any), (10, .any), (11, .any), (12, .any), (36, .any), (37, .any), (38, .any), (39, .any), (40, .any), (41, .any), (42, .any), (43, .any), (44, .any), (45, .any), (46, .any), (47, .any), (48, .any), (49, .any), (50, .any), (51, .any), (52, .any), (53, .any), (54, .any), (55, .any), (56, .any),  (7, gsl p.2 (jcs (all1 a at' d n1 ++ (all2 a at' d (a.low.a + n1) n2 ++ all3 a at' d (a.low.a + n1) (a.low.b + n2) p.1)))), (10, .int .i64 (a.low.c + p.1))]) (fun p => gst σ ns a at' d p.2) (fun p => cnt a.low.c a.high.c - p.1)
        (fun p => p.1 ≤ cnt a.low.c a.high.c ∧ gok ns p.2 (all1 a at' d n1 ++ (all2 a at' d (a.low.a + n1) n2 ++ all3 a at' d (a.low.a + n1) (a.low.b + n2) p.1))) (0, c2) ⟨by simp, by simpa [all3] using hc2⟩ ?_ (.refl _) ?_
      · simp [all3]
        (repeat' first | exact AVsle.nil | refine AVsle.cons (AVle.any _) ?_ | refine AVsle.cons (AVle.refl _) ?_ | refine AVsle.cons AVLe.le ?_)
      rintro ⟨n3, c3⟩ k3 ⟨hn3, hc3⟩ hf3
      simp only at hn3 hc3 hf3
      have g0 := gst_0 (σ := σ) (a := a) (at' := at') (d := d) hc3
      have g1 := gst_1 (σ := σ) (a := a) (at' := at') (d := d) hc3
      have g2 := gst_2 (σ := σ) (a := a) (at' := at') (d := d) hc3
      simp [g0]
      refine condK_cases (fun hx3 => ?_) (fun hx3 => ?_) <;> simp at hx3
      · simp [g0, g1, g2]
        refine Pure.use_le (reaches_pure a ⟨a.low.a + n1, a.low.b + n2, a.low.c + n3⟩ at' d h) ?_
        simp
        have w3 : IntKind.wrap .i64 (a.low.c + n3 + 1) = a.low.c + n3 + 1 := wrap64 (by omega) (by omega)
        have hsucc := all3_succ a at' d (a.low.a + n1) (a.low.b + n2) n3
        have hlen := len_ok a at' d hNb hNc (a.low.a + n1) (a.low.b + n2) hn1 hn2 hn3 hNa
        refine condK_cases (fun hr => ?_) (fun hr => ?_)
        · rw [if_pos hr] at hsucc
          have hb : ((all1 a at' d n1).length + ((all2 a at' d (a.low.a + n1) n2).length + (all3 a at' d (a.low.a + n1) (a.low.b + n2) n3).length) + 1) * 24 ≤ 140737488355328 := by omega
          cases c3 with
          | none =>
            simp only [gok] at hc3
            simp [gsl_none, g0, w3]
            refine loopG_normal (n3 + 1, some ((((((((ns.sub 3).sub k1).sub 2).sub k2).sub 2).sub k3).sub 4).sub 3)) ⟨by simp only; unfold cnt at *; omega, by simp [gok, Nm.under]⟩ (by simp only; unfold cnt at *; omega) ?_ (StWk.weak (gst_step hσ (by simp [Nm.under]) ?_ ?_ ?_ ?_ ?_)) rfl rfl
            · rw [hsucc, ← List.append_assoc, ← List.append_assoc, List.append_assoc (all1 a at' d n1), hc3]
              simp [jcs, gsl_some]
              (repeat' first | exact AVsle.nil | refine AVsle.cons (AVle.any _) ?_ | refine AVsle.cons (AVle.refl _) ?_ | refine AVsle.cons AVLe.le ?_)
            · intro x hx
              rw [up_other (ns := ns) (by simp [Nm.under]) hx, up_other (ns := ns) (by simp [Nm.under]) hx]
              exact gst_out (c := none) (n := []) rfl hx
            · simp [g0]
            · simp [g1]
            · simp [g2]
            · simp
          | some m =>
            have hm : ∀ x, x.under ((((((ns.sub 3).sub k1).sub 2).sub k2).sub 2).sub k3) = true → ¬ x = m := fun x hx e => by
              have := hf3 x hx; rw [e, gst_tok] at this; cases this
            have hq := hm ((((((((ns.sub 3).sub k1).sub 2).sub k2).sub 2).sub k3).sub 1).sub 4) (by simp [Nm.under])
            have hn := hm ((((((((ns.sub 3).sub k1).sub 2).sub k2).sub 2).sub k3).sub 4).sub 3) (by simp [Nm.under])
            have hq' : ¬ m = _ := fun e => hq e.symm
            have hn' : ¬ m = _ := fun e => hn e.symm
            have hc4 := hc3
            obtain ⟨m0, m1, m2, m3⟩ := hc4
            simp [gsl_some, g0, hb, hq, hq', hn, hn', gst_tok, w3, m1, Ne.symm m1]
            refine loopG_normal (n3 + 1, some ((((((((ns.sub 3).sub k1).sub 2).sub k2).sub 2).sub k3).sub 4).sub 3)) ⟨by simp only; unfold cnt at *; omega, by simp [gok, Nm.under]⟩ (by simp only; unfold cnt at *; omega) ?_ (StWk.weak (gst_step hσ (by simp [Nm.under]) ?_ ?_ ?_ ?_ ?_)) rfl rfl
            · rw [jcs_snoc (all1 a at' d n1 ++ (all2 a at' d (a.low.a + n1) n2 ++ all3 a at' d (a.low.a + n1) (a.low.b + n2) n3)) ⟨a.low.a + n1, a.low.b + n2, a.low.c + n3⟩]
              simp [gsl_some, hsucc]
              (repeat' first | exact AVsle.nil | refine AVsle.cons (AVle.any _) ?_ | refine AVsle.cons (AVle.refl _) ?_ | refine AVsle.cons AVLe.le ?_)
            · intro x hx
              rw [up_other (ns := ns) (by simp [Nm.under]) hx, del_other (ns := ns) m0 hx, up_other (ns := ns) (by simp [Nm.under]) hx]
              exact gst_out hc3 hx
            · simp [g0, Ne.symm m1]
            · simp [g1, Ne.symm m2]
            · simp [g2, Ne.symm m3]
            · simp
        · rw [if_neg (by simp [hr]), List.append_nil] at hsucc
          simp [w3]
          refine loopG_normal (n3 + 1, c3) ⟨by simp only; unfold cnt at *; omega, by simpa only [hsucc] using hc3⟩ (by simp only; unfold cnt at *; omega) ?_ ?_ rfl rfl
          · simp [hsucc]
            (repeat' first | exact AVsle.nil | refine AVsle.cons (AVle.any _) ?_ | refine AVsle.cons (AVle.refl _) ?_ | refine AVsle.cons AVLe.le ?_)
          · refine StWeak.same ?_
            simp
            done
      · have w2 : IntKind.wrap .i64 (a.low.b + n2 + 1) = a.low.b + n2 + 1 := wrap64 (by omega) (by omega)
        obtain rfl : n3 = cnt a.low.c a.high.c := by unfold cnt at *; omega
        have e2 := (all2_succ a at' d (a.low.a + n1) n2).symm
        rw [e2] at hc3 ⊢
        simp [w2]
        refine loopG_normal (n2 + 1, c3) ⟨by simp only; unfold cnt at *; omega, hc3⟩ (by simp only; unfold cnt at *; omega) ?_ (StWk.weak (.refl _)) rfl rfl
        simp
        (repeat' first | exact AVsle.nil | refine AVsle.cons (AVle.any _) ?_ | refine AVsle.cons (AVle.refl _) ?_ | refine AVsle.cons AVLe.le ?_)
    · have w1 : IntKind.wrap .i64 (a.low.a + n1 + 1) = a.low.a + n1 + 1 := wrap64 (by omega) (by omega)
      obtain rfl : n2 = cnt a.low.b a.high.b := by unfold cnt at *; omega
      rw [← all1_succ] at hc2 ⊢
      simp [w1]
      refine loopG_normal (n1 + 1, c2) ⟨by simp only; unfold cnt at *; omega, hc2⟩ (by simp only; unfold cnt at *; omega) ?_ (StWk.weak (.refl _)) rfl rfl
      simp
      (repeat' first | exact AVsle.nil | refine AVsle.cons (AVle.any _) ?_ | refine AVsle.cons (AVle.refl _) ?_ | refine AVsle.cons AVLe.le ?_)
  · simp
    obtain rfl : n1 = cnt a.low.a a.high.a := by unfold cnt at *; omega
    exact endA_weak (gsl_unk (ns := ns) hc1) (gst_weak hc1)
end Go.Proofs
