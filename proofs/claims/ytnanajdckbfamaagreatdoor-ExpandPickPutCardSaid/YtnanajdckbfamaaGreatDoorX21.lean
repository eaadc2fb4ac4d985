/- Expansion: walks of the law's cells. -/
import Derived.Test.YtnanajdckbfamaaGreatDoorX20
set_option linter.unusedVariables false
set_option linter.unusedSimpArgs false
set_option maxRecDepth 100000
namespace Go.Proofs
open Go Go.Abs
attribute [local irreducible] wpc aSeq awAny endA guardK condK CallK callT aPlan onlyL takeL aeffK takeE loopG bodyA thenA inBlockA planK roundG assignG bodyI endI YieldK unrollG endP
/-- Elements that say less. -/
class AVssLe (es es' : List (List AV)) : Prop where
  le : es.length = es'.length ∧ ∀ (i : Nat) (e e' : List AV), es[i]? = some e → es'[i]? = some e' → AVsle e e'
instance : AVssLe [] [] := ⟨rfl, fun i e e' h => by simp at h⟩
instance {e e' : List AV} {es es' : List (List AV)} [h : AVsLe e e'] [hl : AVssLe es es'] : AVssLe (e :: es) (e' :: es') := ⟨by simp [hl.le.1], fun i d d' h1 h2 => by
  cases i with
  | zero => simp at h1 h2; subst h1; subst h2; exact h.le
  | succ i => simp at h1 h2; exact hl.le.2 i d d' h1 h2⟩
theorem AVle.sl_all {k : Nat} {es es' : List (List AV)} {c : Cap} (h : AVssLe es es') : AVle (.sl k es c) (.sl k es' .unk) := fun ρ M x hx => by
  have hx := AVle.unk _ _ _ hx
  cases es with
  | nil =>
    have := h.le.1
    cases es' with
    | nil => exact hx
    | cons a b => simp at this
  | cons a b =>
  generalize hes : a :: b = es at hx h
  cases hx with
  | slnil h => simp at hes
  | slz a h => simp at hes
  | sl hsz hcap hc ht h1 h2 =>
    have hl := h.le.1
    have get : ∀ (i j : Nat) (d : List AV) (v : AV), es'[i]? = some d → d[j]? = some v → ∃ d0 v0, es[i]? = some d0 ∧ d0[j]? = some v0 ∧ AVle v0 v := by
      intro i j d v hi hj
      have hi' : i < es.length := by rw [hl]; exact (List.getElem?_eq_some_iff.1 hi).1
      have hd := h.le.2 i _ _ (List.getElem?_eq_getElem hi') hi
      have hj' : j < es[i].length := by rw [hd.1]; exact (List.getElem?_eq_some_iff.1 hj).1
      exact ⟨_, _, List.getElem?_eq_getElem hi', List.getElem?_eq_getElem hj', hd.2 j _ _ (List.getElem?_eq_getElem hj') hj⟩
    rw [hl] at hcap hc ht ⊢
    refine .sl (fun d hd => ?_) hcap hc ht (fun i j d v hi hj => ?_) (fun i j d v x hi hj hx => ?_)
    · obtain ⟨i, hi, rfl⟩ := List.getElem_of_mem hd
      have hi' : i < es.length := by rw [hl]; exact hi
      rw [← (h.le.2 i _ _ (List.getElem?_eq_getElem hi') (List.getElem?_eq_getElem hi)).1]
      exact hsz _ (List.getElem_mem hi')
    · obtain ⟨d0, v0, g1, g2, _⟩ := get i j d v hi hj
      exact h1 i j d0 v0 g1 g2
    · obtain ⟨d0, v0, g1, g2, g3⟩ := get i j d v hi hj
      exact g3 _ _ _ (h2 i j d0 v0 x g1 g2 hx)
instance {k : Nat} {es es' : List (List AV)} {c : Cap} [h : AVssLe es es'] : AVLe (.sl k es c) (.sl k es' .unk) := ⟨AVle.sl_all h⟩
theorem wln87880000 : IntKind.wrap .i64 (-87880000) = (-87880000) := by decide
theorem wl87880000 : IntKind.wrap .i64 (87880000) = (87880000) := by decide
theorem wln4394000 : IntKind.wrap .i64 (-4394000) = (-4394000) := by decide
theorem wl52728000 : IntKind.wrap .i64 (52728000) = (52728000) := by decide
theorem wln131820000 : IntKind.wrap .i64 (-131820000) = (-131820000) := by decide
theorem wln109850000 : IntKind.wrap .i64 (-109850000) = (-109850000) := by decide
theorem wl35152000 : IntKind.wrap .i64 (35152000) = (35152000) := by decide
theorem wl1124864000 : IntKind.wrap .i64 (1124864000) = (1124864000) := by decide
theorem wl562432000 : IntKind.wrap .i64 (562432000) = (562432000) := by decide
theorem wl597584000 : IntKind.wrap .i64 (597584000) = (597584000) := by decide
theorem wl263640000 : IntKind.wrap .i64 (263640000) = (263640000) := by decide
theorem wl112486400 : IntKind.wrap .i64 (112486400) = (112486400) := by decide
theorem wl56243200 : IntKind.wrap .i64 (56243200) = (56243200) := by decide
theorem wl59758400 : IntKind.wrap .i64 (59758400) = (59758400) := by decide
def sCap : ByteArray := ⟨#[99, 97, 112]⟩
def sNut : ByteArray := ⟨#[110, 117, 116]⟩
def sLeft : ByteArray := ⟨#[108, 101, 102, 116]⟩
def sMid : ByteArray := ⟨#[109, 105, 100]⟩
def sFar : ByteArray := ⟨#[102, 97, 114]⟩
def base9 : Ce where
  a0 := ⟨(-87880000, 0), ⟨10, 8, 4⟩, 1, ⟨-17, -17, -17⟩, ⟨18, 18, 18⟩⟩
  a1 := ⟨(87880000, 0), ⟨10, 8, 4⟩, 1, ⟨-17, -17, -17⟩, ⟨18, 18, 18⟩⟩
  h0 := ⟨9, 0, 0⟩
  h1 := ⟨9, 0, 0⟩
  fix := [[(-4394000, -4394000), (4394000, -4394000), (4394000, 4394000), (-4394000, 4394000)]]
  places := [⟨⟨#[108, 101, 102, 116]⟩, (-87880000, 52728000), ⟨274625, 0, 3⟩⟩, ⟨⟨#[109, 105, 100]⟩, (0, 52728000), ⟨0, 274625, 3⟩⟩]
  parts := [⟨⟨#[99, 97, 112]⟩, [(0, 0), (2, 0), (2, 1), (0, 1)], 1⟩]
  belt := [0, 1]
  period := 30
  lim := ⟨6, 2, 1⟩
  loaded := ⟨4, 2, 1⟩
  zones := [[(-131820000, -131820000), (-109850000, -131820000), (-109850000, -87880000)]]
  gap := 2
  slow := 1
def small13 : Ce where
  a0 := ⟨(0, 0), ⟨8, 8, 4⟩, 1, ⟨-17, -17, -17⟩, ⟨18, 18, 18⟩⟩
  a1 := ⟨(112486400, 0), ⟨8, 8, 4⟩, 1, ⟨-17, -17, -17⟩, ⟨18, 18, 18⟩⟩
  h0 := ⟨9, 0, 0⟩
  h1 := ⟨9, 0, 0⟩
  fix := []
  places := [⟨⟨#[108, 101, 102, 116]⟩, (35152000, 52728000), ⟨0, 274625, 3⟩⟩, ⟨⟨#[109, 105, 100]⟩, (56243200, 59758400), ⟨0, 274625, 3⟩⟩, ⟨⟨#[102, 97, 114]⟩, (263640000, 0), ⟨274625, 0, 3⟩⟩]
  parts := [⟨⟨#[99, 97, 112]⟩, [(0, 0), (2, 0), (2, 1), (0, 1)], 0⟩, ⟨⟨#[110, 117, 116]⟩, [(0, 0), (2, 0), (2, 1), (0, 1)], 2⟩]
  belt := []
  period := 30
  lim := ⟨6, 2, 1⟩
  loaded := ⟨4, 2, 1⟩
  zones := []
  gap := 2
  slow := 1
theorem Base9_pure : Pure Tryz.prog 40 [] base9.av := by
  refine pure_val fun σ ns _ => ?_; refine acalls_of_wpc Tryz.mixed Tryz.dr40 Tryz.func40 rfl (Tryz.fit40 _ rfl) Tryz.en40 (fun hσ => ?_); simp [Tryz.ntmps40]
  simp [wln87880000, wl87880000, wln4394000, wl52728000, wln131820000, wln109850000, wl35152000, wl1124864000, wl562432000, wl597584000, wl263640000, wl112486400, wl56243200, wl59758400]
  refine endA_weak ?_ (StWeak.same ?_)
  · simp [Ce.av, Ce.cells, pav, Pt.cells, Pc.cells, base9, fcs, plcs, ptcs, ics, pcs]
    refine AVle.agg ?_
    (repeat' first | exact AVsle.nil | refine AVsle.cons (AVle.any _) ?_ | refine AVsle.cons (AVle.refl _) ?_ | refine AVsle.cons AVLe.le ?_)
  · simp
theorem Small13_pure : Pure Tryz.prog 23 [] small13.av := by
  refine pure_val fun σ ns _ => ?_; refine acalls_of_wpc Tryz.mixed Tryz.dr23 Tryz.func23 rfl (Tryz.fit23 _ rfl) Tryz.en23 (fun hσ => ?_); simp [Tryz.ntmps23]
  first | refine Pure.use_le (Base9_pure) ?_ | refine callT_le (Base9_pure) ?_
  have hg : (ptcs base9.parts)[0]? = some [.str sCap, .sl 2 (pcs [(0, 0), (2, 0), (2, 1), (0, 1)]) .unk, .int .i64 1] := rfl
  have t1 : Int.tdiv 1124864000 10 = 112486400 := by decide
  have t2 : Int.tdiv 562432000 10 = 56243200 := by decide
  have t3 : Int.tdiv 597584000 10 = 59758400 := by decide
  simp [hg, t1, t2, t3, wln87880000, wl87880000, wln4394000, wl52728000, wln131820000, wln109850000, wl35152000, wl1124864000, wl562432000, wl597584000, wl263640000, wl112486400, wl56243200, wl59758400]
  refine endA_weak ?_ (StWeak.same ?_)
  · simp [Ce.av, Ce.cells, pav, Pt.cells, Pc.cells, base9, small13, sCap, fcs, plcs, ptcs, ics, pcs]
    refine AVle.agg ?_
    (repeat' first | exact AVsle.nil | refine AVsle.cons (AVle.any _) ?_ | refine AVsle.cons (AVle.refl _) ?_ | refine AVsle.cons AVLe.le ?_)
  · simp
end Go.Proofs
