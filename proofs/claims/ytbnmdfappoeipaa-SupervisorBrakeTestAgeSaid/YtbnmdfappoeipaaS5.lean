/- Walks: the reference's tick; sequences of inputs. -/
import Derived.Test.YtbnmdfappoeipaaS4
set_option linter.unusedVariables false
set_option linter.unusedSimpArgs false
set_option maxRecDepth 100000
namespace Go.Proofs
open Go Go.Abs
attribute [local irreducible] wpc aSeq awAny endA guardK condK CallK callT aPlan onlyL takeL aeffK takeE loopG bodyA thenA inBlockA planK roundG assignG bodyI endI YieldK unrollG
def tk (t : Int) : Int := if t + 1 < 1073741824 then t + 1 else 1073741824
def tickS (s : SS) : SS := { s with t0 := tk s.t0, t1 := tk s.t1 }
def runS (s : SS) (l : List Vi) (ask : Int) (rest : Bool) : SS :=
  if s.mode = 1 ∨ s.mode = 2 then goingS (tickS s) l (dem l ask) ask rest else if s.mode = 3 then stoppingS (tickS s) l (dem l ask) rest else stillS (tickS s) l (dem l ask) ask rest
def finS (w : SS) (rest : Bool) : SS := if w.mode = 4 ∧ rest = true then { w with t0 := 0, t1 := 0 } else w
def errS (w : SS) (ask : Int) : Int := if ask < 0 ∨ 5 < ask then 1 else if (ask = 4 ∧ ¬ w.mode = 1) ∨ (ask = 1 ∧ ¬ w.mode = 2) then 290 else 0
def stepS (s : SS) (l : List Vi) (ask : Int) (rest : Bool) : SS := finS (runS s l ask rest) rest
def stepE (s : SS) (l : List Vi) (ask : Int) (rest : Bool) : Int := errS (runS s l ask rest) ask
structure SOk (s : SS) : Prop where
  left : 0 ≤ s.left ∧ s.left ≤ 60
  ca : s.ca.length ≤ 16
  t0 : 0 ≤ s.t0 ∧ s.t0 ≤ 1073741824
  t1 : 0 ≤ s.t1 ∧ s.t1 ≤ 1073741824
theorem sval_ok {s : SS} (h : sval s = true) : SOk s := by
  simp [sval, wi] at h
  exact ⟨h.1.1.1.1, h.1.1.1.2, h.1.1.2, h.1.2⟩
theorem finS_mode (w : SS) (rest : Bool) : (finS w rest).mode = w.mode := by unfold finS; split <;> rfl
abbrev tkav (s : SS) : AV := .agg [.int .i64 s.mode, .int .i64 s.cat, .int .i64 s.left, .sl 4 (vcs s.ca) .unk, .int .i64 (if s.t0 + 1 < 1073741824 then s.t0 + 1 else 1073741824), .int .i64 (if s.t1 + 1 < 1073741824 then s.t1 + 1 else 1073741824)]
theorem going_tk (s : SS) (l : List Vi) (c ask : Int) (rest : Bool) (hl : l.length ≤ 1000) : Pure Try.prog 30 [tkav s, .sl 4 (vcs l) .unk, .int .i64 c, .int .i64 ask, .bool rest] (goingS (tickS s) l c ask rest).av := going_pure (tickS s) l c ask rest hl
theorem stopping_tk (s : SS) (l : List Vi) (c : Int) (rest : Bool) (hl : l.length ≤ 1000) (hc : s.ca.length ≤ 1000) (hs : 0 ≤ s.left ∧ s.left ≤ 60) : Pure Try.prog 31 [tkav s, .sl 4 (vcs l) .unk, .int .i64 c, .bool rest] (stoppingS (tickS s) l c rest).av := stopping_pure (tickS s) l c rest hl hc hs
theorem still_tk (s : SS) (l : List Vi) (c ask : Int) (rest : Bool) (hl : l.length ≤ 1000) (hc : s.ca.length ≤ 1000) : Pure Try.prog 32 [tkav s, .sl 4 (vcs l) .unk, .int .i64 c, .int .i64 ask, .bool rest] (stillS (tickS s) l c ask rest).av := still_pure (tickS s) l c ask rest hl hc
set_option maxHeartbeats 8000000 in
theorem rStep_pure (s : SS) (l : List Vi) (ask : Int) (rest : Bool) (hl : l.length ≤ 1000) (h : SOk s) : Pure Try.prog 20 [s.av, .sl 4 (vcs l) .unk, .int .i64 ask, .bool rest] (.tup [(stepS s l ask rest).av, .int .i64 (stepE s l ask rest)]) := by
  have w0 : IntKind.wrap .i64 (s.t0 + 1) = s.t0 + 1 := wrap64 (by have := h.t0; omega) (by have := h.t0; omega)
  have w1 : IntKind.wrap .i64 (s.t1 + 1) = s.t1 + 1 := wrap64 (by have := h.t1; omega) (by have := h.t1; omega)
  have hca := h.ca
  have hlf := h.left
  intro σ ns; refine acalls_of_wpc Try.mixed Try.dr20 Try.func20 rfl (Try.fit20 _ rfl) Try.en20 (fun hσ => ?_); simp [Try.ntmps20]
  simp [w0, w1]
  first | refine Pure.use_le (call_pure l ask hl) ?_ | refine callT_le (call_pure l ask hl) ?_
  simp
  have ctail : (s.mode = 1 ∨ s.mode = 2) ∨ (¬ (s.mode = 1 ∨ s.mode = 2) ∧ s.mode = 3) ∨ (¬ (s.mode = 1 ∨ s.mode = 2) ∧ ¬ s.mode = 3) := by omega
  unfold stepS stepE
  rcases ctail with hm | ⟨hm, hm3⟩ | ⟨hm, hm3⟩
  · have e : runS s l ask rest = goingS (tickS s) l (dem l ask) ask rest := if_pos hm
    rw [e]
    rcases hm with hm | hm
    · simp [show (s.mode == 1) = true by simp [hm]]
      first | refine Pure.use_le (going_tk s l (dem l ask) ask rest hl) ?_ | refine callT_le (going_tk s l (dem l ask) ask rest hl) ?_
      simp
      generalize goingS (tickS s) l (dem l ask) ask rest = w
      by_cases hm4 : w.mode = 4
      · cases rest
        · simp [hm4]
          by_cases ha : ask < 0
          · simp [ha]
            exact endA_eq (by simp [finS, errS, hm4, ha]) (by simp)
          by_cases hb : 5 < ask
          · simp [ha, hb]
            exact endA_eq (by simp [finS, errS, hm4, ha, hb]) (by simp)
          simp [ha, hb]
          by_cases h4 : ask = 4
          · by_cases g : w.mode = 1
            · simp [h4, g]
              exact endA_eq (by first | (exfalso; omega) | (simp [finS, errS, hm4, h4, g]; done)) (by simp)
            · simp [h4, ne_bne g]
              exact endA_eq (by first | (exfalso; omega) | (simp [finS, errS, hm4, h4, g]; done)) (by simp)
          by_cases h1 : ask = 1
          · by_cases g : w.mode = 2
            · simp [h1, g]
              exact endA_eq (by first | (exfalso; omega) | (simp [finS, errS, hm4, h1, g]; done)) (by simp)
            · simp [h1, ne_bne g]
              exact endA_eq (by first | (exfalso; omega) | (simp [finS, errS, hm4, h1, g]; done)) (by simp)
          simp [ne_beq h4, ne_beq h1]
          exact endA_eq (by simp [finS, errS, hm4, h1, h4, ha, hb]) (by simp)
        · simp [hm4]
          by_cases ha : ask < 0
          · simp [ha]
            exact endA_eq (by simp [finS, errS, hm4, ha]) (by simp)
          by_cases hb : 5 < ask
          · simp [ha, hb]
            exact endA_eq (by simp [finS, errS, hm4, ha, hb]) (by simp)
          simp [ha, hb]
          by_cases h4 : ask = 4
          · by_cases g : w.mode = 1
            · simp [h4, g]
              exact endA_eq (by first | (exfalso; omega) | (simp [finS, errS, hm4, h4, g]; done)) (by simp)
            · simp [h4, ne_bne g]
              exact endA_eq (by first | (exfalso; omega) | (simp [finS, errS, hm4, h4, g]; done)) (by simp)
          by_cases h1 : ask = 1
          · by_cases g : w.mode = 2
            · simp [h1, g]
              exact endA_eq (by first | (exfalso; omega) | (simp [finS, errS, hm4, h1, g]; done)) (by simp)
            · simp [h1, ne_bne g]
              exact endA_eq (by first | (exfalso; omega) | (simp [finS, errS, hm4, h1, g]; done)) (by simp)
          simp [ne_beq h4, ne_beq h1]
          exact endA_eq (by simp [finS, errS, hm4, h1, h4, ha, hb]) (by simp)
      · simp [ne_beq hm4]
        by_cases ha : ask < 0
        · simp [ha]
          exact endA_eq (by simp [finS, errS, hm4, ha]) (by simp)
        by_cases hb : 5 < ask
        · simp [ha, hb]
          exact endA_eq (by simp [finS, errS, hm4, ha, hb]) (by simp)
        simp [ha, hb]
        by_cases h4 : ask = 4
        · by_cases g : w.mode = 1
          · simp [h4, g]
            exact endA_eq (by first | (exfalso; omega) | (simp [finS, errS, hm4, h4, g]; done)) (by simp)
          · simp [h4, ne_bne g]
            exact endA_eq (by first | (exfalso; omega) | (simp [finS, errS, hm4, h4, g]; done)) (by simp)
        by_cases h1 : ask = 1
        · by_cases g : w.mode = 2
          · simp [h1, g]
            exact endA_eq (by first | (exfalso; omega) | (simp [finS, errS, hm4, h1, g]; done)) (by simp)
          · simp [h1, ne_bne g]
            exact endA_eq (by first | (exfalso; omega) | (simp [finS, errS, hm4, h1, g]; done)) (by simp)
        simp [ne_beq h4, ne_beq h1]
        exact endA_eq (by simp [finS, errS, hm4, h1, h4, ha, hb]) (by simp)
    · simp [show (s.mode == 1) = false by simp [hm], show (s.mode == 2) = true by simp [hm]]
      first | refine Pure.use_le (going_tk s l (dem l ask) ask rest hl) ?_ | refine callT_le (going_tk s l (dem l ask) ask rest hl) ?_
      simp
      generalize goingS (tickS s) l (dem l ask) ask rest = w
      by_cases hm4 : w.mode = 4
      · cases rest
        · simp [hm4]
          by_cases ha : ask < 0
          · simp [ha]
            exact endA_eq (by simp [finS, errS, hm4, ha]) (by simp)
          by_cases hb : 5 < ask
          · simp [ha, hb]
            exact endA_eq (by simp [finS, errS, hm4, ha, hb]) (by simp)
          simp [ha, hb]
          by_cases h4 : ask = 4
          · by_cases g : w.mode = 1
            · simp [h4, g]
              exact endA_eq (by first | (exfalso; omega) | (simp [finS, errS, hm4, h4, g]; done)) (by simp)
            · simp [h4, ne_bne g]
              exact endA_eq (by first | (exfalso; omega) | (simp [finS, errS, hm4, h4, g]; done)) (by simp)
          by_cases h1 : ask = 1
          · by_cases g : w.mode = 2
            · simp [h1, g]
              exact endA_eq (by first | (exfalso; omega) | (simp [finS, errS, hm4, h1, g]; done)) (by simp)
            · simp [h1, ne_bne g]
              exact endA_eq (by first | (exfalso; omega) | (simp [finS, errS, hm4, h1, g]; done)) (by simp)
          simp [ne_beq h4, ne_beq h1]
          exact endA_eq (by simp [finS, errS, hm4, h1, h4, ha, hb]) (by simp)
        · simp [hm4]
          by_cases ha : ask < 0
          · simp [ha]
            exact endA_eq (by simp [finS, errS, hm4, ha]) (by simp)
          by_cases hb : 5 < ask
          · simp [ha, hb]
            exact endA_eq (by simp [finS, errS, hm4, ha, hb]) (by simp)
          simp [ha, hb]
          by_cases h4 : ask = 4
          · by_cases g : w.mode = 1
            · simp [h4, g]
              exact endA_eq (by first | (exfalso; omega) | (simp [finS, errS, hm4, h4, g]; done)) (by simp)
            · simp [h4, ne_bne g]
              exact endA_eq (by first | (exfalso; omega) | (simp [finS, errS, hm4, h4, g]; done)) (by simp)
          by_cases h1 : ask = 1
          · by_cases g : w.mode = 2
            · simp [h1, g]
              exact endA_eq (by first | (exfalso; omega) | (simp [finS, errS, hm4, h1, g]; done)) (by simp)
            · simp [h1, ne_bne g]
              exact endA_eq (by first | (exfalso; omega) | (simp [finS, errS, hm4, h1, g]; done)) (by simp)
          simp [ne_beq h4, ne_beq h1]
          exact endA_eq (by simp [finS, errS, hm4, h1, h4, ha, hb]) (by simp)
      · simp [ne_beq hm4]
        by_cases ha : ask < 0
        · simp [ha]
          exact endA_eq (by simp [finS, errS, hm4, ha]) (by simp)
        by_cases hb : 5 < ask
        · simp [ha, hb]
          exact endA_eq (by simp [finS, errS, hm4, ha, hb]) (by simp)
        simp [ha, hb]
        by_cases h4 : ask = 4
        · by_cases g : w.mode = 1
          · simp [h4, g]
            exact endA_eq (by first | (exfalso; omega) | (simp [finS, errS, hm4, h4, g]; done)) (by simp)
          · simp [h4, ne_bne g]
            exact endA_eq (by first | (exfalso; omega) | (simp [finS, errS, hm4, h4, g]; done)) (by simp)
        by_cases h1 : ask = 1
        · by_cases g : w.mode = 2
          · simp [h1, g]
            exact endA_eq (by first | (exfalso; omega) | (simp [finS, errS, hm4, h1, g]; done)) (by simp)
          · simp [h1, ne_bne g]
            exact endA_eq (by first | (exfalso; omega) | (simp [finS, errS, hm4, h1, g]; done)) (by simp)
        simp [ne_beq h4, ne_beq h1]
        exact endA_eq (by simp [finS, errS, hm4, h1, h4, ha, hb]) (by simp)
  · have e : runS s l ask rest = stoppingS (tickS s) l (dem l ask) rest := by unfold runS; rw [if_neg hm, if_pos hm3]
    rw [e]
    simp [show (s.mode == 1) = false by simp [hm3], show (s.mode == 2) = false by simp [hm3], show (s.mode == 3) = true by simp [hm3]]
    first | refine Pure.use_le (stopping_tk s l (dem l ask) rest hl (by omega) hlf) ?_ | refine callT_le (stopping_tk s l (dem l ask) rest hl (by omega) hlf) ?_
    simp
    generalize stoppingS (tickS s) l (dem l ask) rest = w
    by_cases hm4 : w.mode = 4
    · cases rest
      · simp [hm4]
        by_cases ha : ask < 0
        · simp [ha]
          exact endA_eq (by simp [finS, errS, hm4, ha]) (by simp)
        by_cases hb : 5 < ask
        · simp [ha, hb]
          exact endA_eq (by simp [finS, errS, hm4, ha, hb]) (by simp)
        simp [ha, hb]
        by_cases h4 : ask = 4
        · by_cases g : w.mode = 1
          · simp [h4, g]
            exact endA_eq (by first | (exfalso; omega) | (simp [finS, errS, hm4, h4, g]; done)) (by simp)
          · simp [h4, ne_bne g]
            exact endA_eq (by first | (exfalso; omega) | (simp [finS, errS, hm4, h4, g]; done)) (by simp)
        by_cases h1 : ask = 1
        · by_cases g : w.mode = 2
          · simp [h1, g]
            exact endA_eq (by first | (exfalso; omega) | (simp [finS, errS, hm4, h1, g]; done)) (by simp)
          · simp [h1, ne_bne g]
            exact endA_eq (by first | (exfalso; omega) | (simp [finS, errS, hm4, h1, g]; done)) (by simp)
        simp [ne_beq h4, ne_beq h1]
        exact endA_eq (by simp [finS, errS, hm4, h1, h4, ha, hb]) (by simp)
      · simp [hm4]
        by_cases ha : ask < 0
        · simp [ha]
          exact endA_eq (by simp [finS, errS, hm4, ha]) (by simp)
        by_cases hb : 5 < ask
        · simp [ha, hb]
          exact endA_eq (by simp [finS, errS, hm4, ha, hb]) (by simp)
        simp [ha, hb]
        by_cases h4 : ask = 4
        · by_cases g : w.mode = 1
          · simp [h4, g]
            exact endA_eq (by first | (exfalso; omega) | (simp [finS, errS, hm4, h4, g]; done)) (by simp)
          · simp [h4, ne_bne g]
            exact endA_eq (by first | (exfalso; omega) | (simp [finS, errS, hm4, h4, g]; done)) (by simp)
        by_cases h1 : ask = 1
        · by_cases g : w.mode = 2
          · simp [h1, g]
            exact endA_eq (by first | (exfalso; omega) | (simp [finS, errS, hm4, h1, g]; done)) (by simp)
          · simp [h1, ne_bne g]
            exact endA_eq (by first | (exfalso; omega) | (simp [finS, errS, hm4, h1, g]; done)) (by simp)
        simp [ne_beq h4, ne_beq h1]
        exact endA_eq (by simp [finS, errS, hm4, h1, h4, ha, hb]) (by simp)
    · simp [ne_beq hm4]
      by_cases ha : ask < 0
      · simp [ha]
        exact endA_eq (by simp [finS, errS, hm4, ha]) (by simp)
      by_cases hb : 5 < ask
      · simp [ha, hb]
        exact endA_eq (by simp [finS, errS, hm4, ha, hb]) (by simp)
      simp [ha, hb]
      by_cases h4 : ask = 4
      · by_cases g : w.mode = 1
        · simp [h4, g]
          exact endA_eq (by first | (exfalso; omega) | (simp [finS, errS, hm4, h4, g]; done)) (by simp)
        · simp [h4, ne_bne g]
          exact endA_eq (by first | (exfalso; omega) | (simp [finS, errS, hm4, h4, g]; done)) (by simp)
      by_cases h1 : ask = 1
      · by_cases g : w.mode = 2
        · simp [h1, g]
          exact endA_eq (by first | (exfalso; omega) | (simp [finS, errS, hm4, h1, g]; done)) (by simp)
        · simp [h1, ne_bne g]
          exact endA_eq (by first | (exfalso; omega) | (simp [finS, errS, hm4, h1, g]; done)) (by simp)
      simp [ne_beq h4, ne_beq h1]
      exact endA_eq (by simp [finS, errS, hm4, h1, h4, ha, hb]) (by simp)
  · have e : runS s l ask rest = stillS (tickS s) l (dem l ask) ask rest := by unfold runS; rw [if_neg hm, if_neg hm3]
    rw [e]
    simp [ne_beq (show ¬ s.mode = 1 by omega), ne_beq (show ¬ s.mode = 2 by omega), ne_beq hm3]
    first | refine Pure.use_le (still_tk s l (dem l ask) ask rest hl (by omega)) ?_ | refine callT_le (still_tk s l (dem l ask) ask rest hl (by omega)) ?_
    simp
    generalize stillS (tickS s) l (dem l ask) ask rest = w
    by_cases hm4 : w.mode = 4
    · cases rest
      · simp [hm4]
        by_cases ha : ask < 0
        · simp [ha]
          exact endA_eq (by simp [finS, errS, hm4, ha]) (by simp)
        by_cases hb : 5 < ask
        · simp [ha, hb]
          exact endA_eq (by simp [finS, errS, hm4, ha, hb]) (by simp)
        simp [ha, hb]
        by_cases h4 : ask = 4
        · by_cases g : w.mode = 1
          · simp [h4, g]
            exact endA_eq (by first | (exfalso; omega) | (simp [finS, errS, hm4, h4, g]; done)) (by simp)
          · simp [h4, ne_bne g]
            exact endA_eq (by first | (exfalso; omega) | (simp [finS, errS, hm4, h4, g]; done)) (by simp)
        by_cases h1 : ask = 1
        · by_cases g : w.mode = 2
          · simp [h1, g]
            exact endA_eq (by first | (exfalso; omega) | (simp [finS, errS, hm4, h1, g]; done)) (by simp)
          · simp [h1, ne_bne g]
            exact endA_eq (by first | (exfalso; omega) | (simp [finS, errS, hm4, h1, g]; done)) (by simp)
        simp [ne_beq h4, ne_beq h1]
        exact endA_eq (by simp [finS, errS, hm4, h1, h4, ha, hb]) (by simp)
      · simp [hm4]
        by_cases ha : ask < 0
        · simp [ha]
          exact endA_eq (by simp [finS, errS, hm4, ha]) (by simp)
        by_cases hb : 5 < ask
        · simp [ha, hb]
          exact endA_eq (by simp [finS, errS, hm4, ha, hb]) (by simp)
        simp [ha, hb]
        by_cases h4 : ask = 4
        · by_cases g : w.mode = 1
          · simp [h4, g]
            exact endA_eq (by first | (exfalso; omega) | (simp [finS, errS, hm4, h4, g]; done)) (by simp)
          · simp [h4, ne_bne g]
            exact endA_eq (by first | (exfalso; omega) | (simp [finS, errS, hm4, h4, g]; done)) (by simp)
        by_cases h1 : ask = 1
        · by_cases g : w.mode = 2
          · simp [h1, g]
            exact endA_eq (by first | (exfalso; omega) | (simp [finS, errS, hm4, h1, g]; done)) (by simp)
          · simp [h1, ne_bne g]
            exact endA_eq (by first | (exfalso; omega) | (simp [finS, errS, hm4, h1, g]; done)) (by simp)
        simp [ne_beq h4, ne_beq h1]
        exact endA_eq (by simp [finS, errS, hm4, h1, h4, ha, hb]) (by simp)
    · simp [ne_beq hm4]
      by_cases ha : ask < 0
      · simp [ha]
        exact endA_eq (by simp [finS, errS, hm4, ha]) (by simp)
      by_cases hb : 5 < ask
      · simp [ha, hb]
        exact endA_eq (by simp [finS, errS, hm4, ha, hb]) (by simp)
      simp [ha, hb]
      by_cases h4 : ask = 4
      · by_cases g : w.mode = 1
        · simp [h4, g]
          exact endA_eq (by first | (exfalso; omega) | (simp [finS, errS, hm4, h4, g]; done)) (by simp)
        · simp [h4, ne_bne g]
          exact endA_eq (by first | (exfalso; omega) | (simp [finS, errS, hm4, h4, g]; done)) (by simp)
      by_cases h1 : ask = 1
      · by_cases g : w.mode = 2
        · simp [h1, g]
          exact endA_eq (by first | (exfalso; omega) | (simp [finS, errS, hm4, h1, g]; done)) (by simp)
        · simp [h1, ne_bne g]
          exact endA_eq (by first | (exfalso; omega) | (simp [finS, errS, hm4, h1, g]; done)) (by simp)
      simp [ne_beq h4, ne_beq h1]
      exact endA_eq (by simp [finS, errS, hm4, h1, h4, ha, hb]) (by simp)
end Go.Proofs
