/- Plain definitions of arms; walks of the small functions of arms and points. -/
import Derived.Test.YtajdhkchgidjmaaL6
set_option linter.unusedVariables false
set_option linter.unusedSimpArgs false
set_option maxRecDepth 100000
namespace Go.Proofs
open Go Go.Abs
attribute [local irreducible] wpc aSeq awAny endA guardK condK CallK callT aPlan onlyL takeL aeffK takeE loopG bodyA thenA inBlockA planK roundG assignG bodyI endI YieldK
structure J3 where
  a : Int
  b : Int
  c : Int
  deriving DecidableEq
abbrev J3.cells (q : J3) : List AV := [.int .i64 q.a, .int .i64 q.b, .int .i64 q.c]
abbrev J3.av (q : J3) : AV := .agg q.cells
structure Ar where
  base : V2
  lens : J3
  wide : Int
  low : J3
  high : J3
  deriving DecidableEq
abbrev Ar.cells (a : Ar) : List AV := [.int .i64 a.base.1, .int .i64 a.base.2, .int .i64 a.lens.a, .int .i64 a.lens.b, .int .i64 a.lens.c, .int .i64 a.wide, .int .i64 a.low.a, .int .i64 a.low.b, .int .i64 a.low.c, .int .i64 a.high.a, .int .i64 a.high.b, .int .i64 a.high.c]
abbrev Ar.av (a : Ar) : AV := .agg a.cells
def V2.add (p q : V2) : V2 := (p.1 + q.1, p.2 + q.2)
def V2.sub (p q : V2) : V2 := (p.1 - q.1, p.2 - q.2)
/-- Coordinates that sums may not take out of 64 bits. -/
def V2.ok (p : V2) : Prop := -1000000000000 ≤ p.1 ∧ p.1 ≤ 1000000000000 ∧ -1000000000000 ≤ p.2 ∧ p.2 ≤ 1000000000000
theorem gAdd_pure (p q : V2) (hp : p.ok) (hq : q.ok) : Pure Try.prog 38 [p.av, q.av] (p.add q).av := by
  unfold V2.ok at hp hq
  intro σ ns; refine acalls_of_wpc Try.mixed Try.dr38 Try.func38 rfl (Try.fit38 _ rfl) Try.en38 (fun hσ => ?_); simp [Try.ntmps38]
  simp (disch := omega) [wrap64]
  exact endA_eq (by simp [V2.add]) (by simp)
theorem gSub_pure (p q : V2) (hp : p.ok) (hq : q.ok) : Pure Try.prog 34 [p.av, q.av] (p.sub q).av := by
  unfold V2.ok at hp hq
  intro σ ns; refine acalls_of_wpc Try.mixed Try.dr34 Try.func34 rfl (Try.fit34 _ rfl) Try.en34 (fun hσ => ?_); simp [Try.ntmps34]
  simp (disch := omega) [wrap64]
  exact endA_eq (by simp [V2.sub]) (by simp)
theorem plus_pure (p q : V2) (hp : p.ok) (hq : q.ok) : Pure Try.prog 50 [p.av, q.av] (p.add q).av := by
  unfold V2.ok at hp hq
  intro σ ns; refine acalls_of_wpc Try.mixed Try.dr50 Try.func50 rfl (Try.fit50 _ rfl) Try.en50 (fun hσ => ?_); simp [Try.ntmps50]
  simp (disch := omega) [wrap64]
  exact endA_eq (by simp [V2.add]) (by simp)
theorem turns_pure (a : Ar) (j : Int) : Pure Try.prog 36 [a.av, .int .i64 j] (.fn (.func 47) [] [.cptr a.cells, .cptr [.int .i64 j]]) := by
  intro σ ns
  refine ACalls.freezeT (n := (ns.sub 0).sub 0) (τ := σ) (pre := []) (post := [.cptr [.int .i64 j]]) (cs := a.cells) (fun h => h _ (by simp)) ?_
  refine ACalls.freezeT (n := (ns.sub 0).sub 1) (τ := σ.up ((ns.sub 0).sub 0) (.var a.cells)) (pre := [.ptr ((ns.sub 0).sub 0) 0]) (post := []) (cs := [.int .i64 j]) (fun h => by rw [Store.up_get, if_neg (by simp)]; exact h _ (by simp)) ?_
  refine acalls_of_wpc Try.mixed Try.dr36 Try.func36 rfl (Try.fit36 _ rfl) Try.en36 (fun hσ => ?_); simp [Try.ntmps36]
  refine endA_intro (σ' := (σ.up ((ns.sub 0).sub 0) (.var a.cells)).up ((ns.sub 0).sub 1) (.var [.int .i64 j])) (StWk.weak (.refl _)) ⟨by simp, by simp⟩
/-- The numbers from lo on. -/
def upto (lo : Int) (n : Nat) : List Int := (List.range n).map fun t => lo + (t : Nat)
instance AVLe.addSucc {k : IntKind} {a : Int} {i : Nat} : AVLe (.int k (a + i + 1)) (.int k (a + ((i : Int) + 1))) := ⟨by rw [Int.add_assoc]; exact .refl _⟩
theorem turns_iter (a : Ar) (j lo hi : Int) (h : (j = 0 ∧ lo = a.low.a ∧ hi = a.high.a) ∨ (j = 1 ∧ lo = a.low.b ∧ hi = a.high.b) ∨ (j = 2 ∧ lo = a.low.c ∧ hi = a.high.c)) (hb : -1000 ≤ lo ∧ hi ≤ 1000) :
    AIter Try.prog 47 [.cptr a.cells, .cptr [.int .i64 j]] ((upto lo (hi - lo + 1).toNat).map fun q => [.int .i64 q]) := by
  obtain ⟨b0, le, wi, ⟨l0, l1, l2⟩, ⟨g0, g1, g2⟩⟩ := a
  simp only at h
  refine aiter_of_wpc Try.mixed Try.dr47 Try.func47 rfl (Try.fit47 _ rfl) Try.en47 (fun l ns J X hy σ F hJ => ?_); simp [Try.ntmps47]
  rcases h with ⟨rfl, rfl, rfl⟩ | ⟨rfl, rfl, rfl⟩ | ⟨rfl, rfl, rfl⟩ <;> simp
  · refine wpc_loopF (α := Nat × Store × Fre) (fun p => [(4, .any), (9, .any), (10, .any), (11, .any), (12, .any), (13, .any), (14, .any), (15, .any), (16, .any), (17, .any), (18, .any), (19, .any), (20, .any),  (4, .int .i64 (lo + p.1))]) (fun p => p.2.1) (fun p => p.2.2) (fun p => (hi - lo + 1).toNat - p.1) (fun p => p.1 ≤ (hi - lo + 1).toNat ∧ J p.1 p.2.1 p.2.2 ∧ p.2.2.Le F) (0, σ, F) (fun p hp => hp.2.2) ⟨by simp, hJ, .refl _⟩ ?_ (.refl _) rfl ?_
    · simp
      (repeat' first | exact AVsle.nil | refine AVsle.cons (AVle.any _) ?_ | refine AVsle.cons (AVle.refl _) ?_ | refine AVsle.cons AVLe.le ?_)
    rintro ⟨i, σi, Fi⟩ k ⟨hi1, hJi, hFi⟩
    simp only at hi1 hJi hFi
    simp
    refine condK_cases (fun h => ?_) (fun h => ?_) <;> simp at h
    · simp
      refine hy.use hJi (y := [.int .i64 (lo + i)]) ?_ (.refl _) (fun σ' F' hF' hJ' => ?_) (fun σ' F' hF' hX => ?_)
      · simp [upto, show i < (hi - lo + 1).toNat by omega]
      · simp (disch := omega) [wrap64]
        refine loopG_normal (i + 1, σ', F') ⟨by simp only; omega, hJ', hF'.trans hFi⟩ (by simp only; omega) ?_ ?_ rfl rfl
        · simp
          (repeat' first | exact AVsle.nil | refine AVsle.cons (AVle.any _) ?_ | refine AVsle.cons (AVle.refl _) ?_ | refine AVsle.cons AVLe.le ?_)
        · exact StWk.weak (.refl _)
      · simp
        exact endI_same (.inr hX)
    · obtain rfl : i = (hi - lo + 1).toNat := by omega
      simp
      exact endI_same (.inl (by simpa [upto] using hJi))
  · refine wpc_loopF (α := Nat × Store × Fre) (fun p => [(4, .any), (9, .any), (10, .any), (11, .any), (12, .any), (13, .any), (14, .any), (15, .any), (16, .any), (17, .any), (18, .any), (19, .any), (20, .any),  (4, .int .i64 (lo + p.1))]) (fun p => p.2.1) (fun p => p.2.2) (fun p => (hi - lo + 1).toNat - p.1) (fun p => p.1 ≤ (hi - lo + 1).toNat ∧ J p.1 p.2.1 p.2.2 ∧ p.2.2.Le F) (0, σ, F) (fun p hp => hp.2.2) ⟨by simp, hJ, .refl _⟩ ?_ (.refl _) rfl ?_
    · simp
      (repeat' first | exact AVsle.nil | refine AVsle.cons (AVle.any _) ?_ | refine AVsle.cons (AVle.refl _) ?_ | refine AVsle.cons AVLe.le ?_)
    rintro ⟨i, σi, Fi⟩ k ⟨hi1, hJi, hFi⟩
    simp only at hi1 hJi hFi
    simp
    refine condK_cases (fun h => ?_) (fun h => ?_) <;> simp at h
    · simp
      refine hy.use hJi (y := [.int .i64 (lo + i)]) ?_ (.refl _) (fun σ' F' hF' hJ' => ?_) (fun σ' F' hF' hX => ?_)
      · simp [upto, show i < (hi - lo + 1).toNat by omega]
      · simp (disch := omega) [wrap64]
        refine loopG_normal (i + 1, σ', F') ⟨by simp only; omega, hJ', hF'.trans hFi⟩ (by simp only; omega) ?_ ?_ rfl rfl
        · simp
          (repeat' first | exact AVsle.nil | refine AVsle.cons (AVle.any _) ?_ | refine AVsle.cons (AVle.refl _) ?_ | refine AVsle.cons AVLe.le ?_)
        · exact StWk.weak (.refl _)
      · simp
        exact endI_same (.inr hX)
    · obtain rfl : i = (hi - lo + 1).toNat := by omega
      simp
      exact endI_same (.inl (by simpa [upto] using hJi))
  · refine wpc_loopF (α := Nat × Store × Fre) (fun p => [(4, .any), (9, .any), (10, .any), (11, .any), (12, .any), (13, .any), (14, .any), (15, .any), (16, .any), (17, .any), (18, .any), (19, .any), (20, .any),  (4, .int .i64 (lo + p.1))]) (fun p => p.2.1) (fun p => p.2.2) (fun p => (hi - lo + 1).toNat - p.1) (fun p => p.1 ≤ (hi - lo + 1).toNat ∧ J p.1 p.2.1 p.2.2 ∧ p.2.2.Le F) (0, σ, F) (fun p hp => hp.2.2) ⟨by simp, hJ, .refl _⟩ ?_ (.refl _) rfl ?_
    · simp
      (repeat' first | exact AVsle.nil | refine AVsle.cons (AVle.any _) ?_ | refine AVsle.cons (AVle.refl _) ?_ | refine AVsle.cons AVLe.le ?_)
    rintro ⟨i, σi, Fi⟩ k ⟨hi1, hJi, hFi⟩
    simp only at hi1 hJi hFi
    simp
    refine condK_cases (fun h => ?_) (fun h => ?_) <;> simp at h
    · simp
      refine hy.use hJi (y := [.int .i64 (lo + i)]) ?_ (.refl _) (fun σ' F' hF' hJ' => ?_) (fun σ' F' hF' hX => ?_)
      · simp [upto, show i < (hi - lo + 1).toNat by omega]
      · simp (disch := omega) [wrap64]
        refine loopG_normal (i + 1, σ', F') ⟨by simp only; omega, hJ', hF'.trans hFi⟩ (by simp only; omega) ?_ ?_ rfl rfl
        · simp
          (repeat' first | exact AVsle.nil | refine AVsle.cons (AVle.any _) ?_ | refine AVsle.cons (AVle.refl _) ?_ | refine AVsle.cons AVLe.le ?_)
        · exact StWk.weak (.refl _)
      · simp
        exact endI_same (.inr hX)
    · obtain rfl : i = (hi - lo + 1).toNat := by omega
      simp
      exact endI_same (.inl (by simpa [upto] using hJi))
end Go.Proofs
