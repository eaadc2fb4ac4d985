/- Walks: the reference's tick, its parts. -/
import Derived.Test.YtbnmdfappoeipaaS3
set_option linter.unusedVariables false
set_option linter.unusedSimpArgs false
set_option maxRecDepth 100000
namespace Go.Proofs
open Go Go.Abs
attribute [local irreducible] wpc aSeq awAny endA guardK condK CallK callT aPlan onlyL takeL aeffK takeE loopG bodyA thenA inBlockA planK roundG assignG bodyI endI YieldK unrollG
def halt (s : SS) : SS := { s with left := 0, mode := if s.cat = 2 then 5 else 4 }
theorem halt_pure (s : SS) : Pure Try.prog 40 [s.av] (halt s).av := by
  intro σ ns; refine acalls_of_wpc Try.mixed Try.dr40 Try.func40 rfl (Try.fit40 _ rfl) Try.en40 (fun hσ => ?_); simp [Try.ntmps40]
  by_cases h : s.cat = 2
  · simp [h]
    exact endA_eq (by simp [halt, h]) (by simp)
  · simp [ne_beq h]
    exact endA_eq (by simp [halt, h]) (by simp)
def goingS (s : SS) (l : List Vi) (c ask : Int) (rest : Bool) : SS :=
  if c = 3 then (if s.mode = 1 ∧ ask = 1 then { s with mode := 2 } else s) else
  if s.mode = 1 ∧ rest = true then halt { s with cat := c, ca := blame [] l 3 } else { s with cat := c, ca := blame [] l 3, mode := 3, left := 60 }
theorem with_nil (l : List Vi) (below : Int) (hl : l.length ≤ 1000) : Pure Try.prog 39 [.sl 4 [] .unk, .sl 4 (vcs l) .unk, .int .i64 below] (.sl 4 (vcs (blame [] l below)) .unk) := with_pure [] l below (by simp) hl
abbrev SS.av' (mode cat left : Int) (ca : List Vi) (t0 t1 : Int) : AV := .agg [.int .i64 mode, .int .i64 cat, .int .i64 left, .sl 4 (vcs ca) .unk, .int .i64 t0, .int .i64 t1]
theorem halt_pure' (mode cat left : Int) (ca : List Vi) (t0 t1 : Int) : Pure Try.prog 40 [SS.av' mode cat left ca t0 t1] (halt ⟨mode, cat, left, ca, t0, t1⟩).av := halt_pure ⟨mode, cat, left, ca, t0, t1⟩
set_option maxHeartbeats 4000000 in
theorem going_pure (s : SS) (l : List Vi) (c ask : Int) (rest : Bool) (hl : l.length ≤ 1000) : Pure Try.prog 30 [s.av, .sl 4 (vcs l) .unk, .int .i64 c, .int .i64 ask, .bool rest] (goingS s l c ask rest).av := by
  intro σ ns; refine acalls_of_wpc Try.mixed Try.dr30 Try.func30 rfl (Try.fit30 _ rfl) Try.en30 (fun hσ => ?_); simp [Try.ntmps30]
  by_cases hc : c = 3
  · simp [hc]
    by_cases hm : s.mode = 1
    · by_cases ha : ask = 1
      · simp [hm, ha]
        exact endA_eq (by simp [goingS, hc, hm, ha]) (by simp)
      · simp [hm, ne_beq ha]
        exact endA_eq (by simp [goingS, hc, hm, ha]) (by simp)
    · simp [ne_beq hm]
      exact endA_eq (by simp [goingS, hc, hm]) (by simp)
  simp [ne_beq hc]
  first | refine Pure.use_le (with_nil l 3 hl) ?_ | refine callT_le (with_nil l 3 hl) ?_
  simp
  by_cases hm : s.mode = 1
  · cases rest
    · simp [hm]
      exact endA_eq (by simp [goingS, hc, hm]) (by simp)
    · simp [hm]
      first | refine Pure.use_le (halt_pure' 1 c s.left (blame [] l 3) s.t0 s.t1) ?_ | refine callT_le (halt_pure' 1 c s.left (blame [] l 3) s.t0 s.t1) ?_
      simp
      exact endA_eq (by simp [goingS, hc, hm]) (by simp)
  · simp [ne_beq hm]
    exact endA_eq (by simp [goingS, hc, hm]) (by simp)
def stoppingS (s : SS) (l : List Vi) (c : Int) (rest : Bool) : SS :=
  let lf := if 1 < s.left then s.left - 1 else 0
  let ca := if c < s.cat then blame s.ca l s.cat else s.ca
  let ct := if c < s.cat then c else s.cat
  if rest = true then halt { s with left := lf, ca := ca, cat := ct } else { s with left := lf, ca := ca, cat := if lf = 0 then 0 else ct }
set_option maxHeartbeats 4000000 in
theorem stopping_pure (s : SS) (l : List Vi) (c : Int) (rest : Bool) (hl : l.length ≤ 1000) (hc : s.ca.length ≤ 1000) (hs : 0 ≤ s.left ∧ s.left ≤ 60) : Pure Try.prog 31 [s.av, .sl 4 (vcs l) .unk, .int .i64 c, .bool rest] (stoppingS s l c rest).av := by
  obtain ⟨mode, cat, left, ca, t0, t1⟩ := s
  simp only at hc hs
  intro σ ns; refine acalls_of_wpc Try.mixed Try.dr31 Try.func31 rfl (Try.fit31 _ rfl) Try.en31 (fun hσ => ?_); simp [Try.ntmps31]
  have w1 : IntKind.wrap .i64 (left - 1) = left - 1 := wrap64 (by omega) (by omega)
  simp [w1]
  obtain ⟨lf, hlf⟩ : ∃ lf, lf = if 1 < left then left - 1 else 0 := ⟨_, rfl⟩
  rw [← hlf]
  have tail : stoppingS ⟨mode, cat, left, ca, t0, t1⟩ l c rest = if rest = true then halt ⟨mode, if c < cat then c else cat, lf, if c < cat then blame ca l cat else ca, t0, t1⟩ else ⟨mode, if lf = 0 then 0 else if c < cat then c else cat, lf, if c < cat then blame ca l cat else ca, t0, t1⟩ := by
    simp only [stoppingS, ← hlf]
  rw [tail]
  by_cases h1 : c < cat
  · simp [h1]
    first | refine Pure.use_le (with_pure ca l cat hc hl) ?_ | refine callT_le (with_pure ca l cat hc hl) ?_
    simp
    cases rest
    · by_cases h0 : lf = 0
      · simp [h0]
        exact endA_eq (by simp) (by simp)
      · simp [ne_beq h0]
        exact endA_eq (by simp [h0]) (by simp)
    · simp
      first | refine Pure.use_le (halt_pure' mode c lf (blame ca l cat) t0 t1) ?_ | refine callT_le (halt_pure' mode c lf (blame ca l cat) t0 t1) ?_
      simp
      exact endA_eq (by simp) (by simp)
  · simp [h1]
    cases rest
    · by_cases h0 : lf = 0
      · simp [h0]
        exact endA_eq (by simp) (by simp)
      · simp [ne_beq h0]
        exact endA_eq (by simp [h0]) (by simp)
    · simp
      first | refine Pure.use_le (halt_pure' mode cat lf ca t0 t1) ?_ | refine callT_le (halt_pure' mode cat lf ca t0 t1) ?_
      simp
      exact endA_eq (by simp) (by simp)
def stillS (s : SS) (l : List Vi) (c ask : Int) (rest : Bool) : SS :=
  if s.mode = 5 ∧ c < 2 then { s with ca := blame s.ca l s.cat, cat := c, mode := 4 } else
  if ask = 4 ∧ rest = true ∧ c = 3 then ⟨1, 0, 0, [], s.t0, s.t1⟩ else s
set_option maxHeartbeats 4000000 in
theorem still_pure (s : SS) (l : List Vi) (c ask : Int) (rest : Bool) (hl : l.length ≤ 1000) (hc : s.ca.length ≤ 1000) : Pure Try.prog 32 [s.av, .sl 4 (vcs l) .unk, .int .i64 c, .int .i64 ask, .bool rest] (stillS s l c ask rest).av := by
  intro σ ns; refine acalls_of_wpc Try.mixed Try.dr32 Try.func32 rfl (Try.fit32 _ rfl) Try.en32 (fun hσ => ?_); simp [Try.ntmps32]
  have tail : (fun (p : Prop) => p) (stillS s l c ask rest = if s.mode = 5 ∧ c < 2 then { s with ca := blame s.ca l s.cat, cat := c, mode := 4 } else if ask = 4 ∧ rest = true ∧ c = 3 then ⟨1, 0, 0, [], s.t0, s.t1⟩ else s) := rfl
  by_cases h5 : s.mode = 5
  · by_cases h2 : c < 2
    · simp [h5, h2]
      first | refine Pure.use_le (with_pure s.ca l s.cat hc hl) ?_ | refine callT_le (with_pure s.ca l s.cat hc hl) ?_
      simp
      exact endA_eq (by simp [stillS, h5, h2]) (by simp)
    simp [h5, h2]
    by_cases h4 : ask = 4
    · cases rest
      · simp [h4]
        exact endA_eq (by simp [stillS, h5, h2, h4]) (by simp)
      · by_cases h3 : c = 3
        · simp [h4, h3]
          refine endA_weak ?_ (StWeak.same (by simp))
          rw [show stillS s l 3 4 true = ⟨1, 0, 0, [], s.t0, s.t1⟩ by simp [stillS]]
          show AVle _ (.agg [.int .i64 1, .int .i64 0, .int .i64 0, .sl 4 [] .unk, .int .i64 s.t0, .int .i64 s.t1])
          exact AVLe.le
        · simp [h4, ne_beq h3]
          exact endA_eq (by simp [stillS, h5, h2, h4, h3]) (by simp)
    · simp [ne_beq h4]
      exact endA_eq (by simp [stillS, h5, h2, h4]) (by simp)
  · simp [ne_beq h5]
    by_cases h4 : ask = 4
    · cases rest
      · simp [h4]
        exact endA_eq (by simp [stillS, h5, h4]) (by simp)
      · by_cases h3 : c = 3
        · simp [h4, h3]
          refine endA_weak ?_ (StWeak.same (by simp))
          rw [show stillS s l 3 4 true = ⟨1, 0, 0, [], s.t0, s.t1⟩ by simp [stillS]]
          show AVle _ (.agg [.int .i64 1, .int .i64 0, .int .i64 0, .sl 4 [] .unk, .int .i64 s.t0, .int .i64 s.t1])
          exact AVLe.le
        · simp [h4, ne_beq h3]
          exact endA_eq (by simp [stillS, h5, h4, h3]) (by simp)
    · simp [ne_beq h4]
      exact endA_eq (by simp [stillS, h5, h4]) (by simp)
end Go.Proofs
