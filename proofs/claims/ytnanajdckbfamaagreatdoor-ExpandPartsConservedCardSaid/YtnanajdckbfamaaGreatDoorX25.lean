/- Expansion: the walk of ExpandPartsConserved. -/
import Derived.Test.YtnanajdckbfamaaGreatDoorX23
set_option linter.unusedVariables false
set_option linter.unusedSimpArgs false
set_option maxRecDepth 100000
namespace Go.Proofs
open Go Go.Abs
attribute [local irreducible] wpc aSeq awAny endA guardK condK CallK callT aPlan onlyL takeL aeffK takeE loopG bodyA thenA inBlockA planK roundG assignG bodyI endI YieldK unrollG endP
theorem refR_len {s : Sp} {w : Ws} {c : Ce} (hst : StOk w c) : (refR w (doE s w c)).1.wher.length = w.wher.length := by
  rw [(refR_st (s := s) hst).len, hst.len]
theorem refR_bad {s : Sp} {w : Ws} {c : Ce} (h : ¬ (refR w (doE s w c)).2 = 0) : (refR w (doE s w c)).1 = w := by
  cases hd : doE s w c with
  | ok w' => rw [hd] at h; exact absurd rfl h
  | error k => rfl
set_option maxHeartbeats 4000000 in
theorem conserved_pure (c : Ce) (l : List Wd) (hok : ∀ x ∈ l, WdOk x) (s0 : Sp) (a : Nat) (ha : a < 256) (p : Nat) (hp : p < 256) (q : Nat) (hq : q < 256) :
    PureG 5 [c.av, .sl 11 (wdcs l) .unk, s0.av, .int .u8 a, .int .u8 p, .int .u8 q] (.bool true) := by
  refine pureG_val fun σ ns gl go _ hgo hg => ?_
  refine acalls_of_wpc Tryz.mixed Tryz.dr5 Tryz.func5 rfl (Tryz.fit5 _ rfl) Tryz.en5 (fun hσ => ?_); simp [Tryz.ntmps5]
  have hgg := ne_own hσ hg
  have hg2 := own_ne hσ hg
  refine head13_pure.use (gl := gl) hgo (by simp [hg, hgg, hg2]) ?_
  simp
  first | refine Pure.use_le (Great13_pure c l) ?_ | refine callT_le (Great13_pure c l) ?_
  simp
  refine condK_cases (fun h1 => ?_) (fun h1 => ?_) <;> simp [h1]
  · exact endA_eq rfl (by simp)
  obtain ⟨hc, h40⟩ := great13_right h1
  have hpre := first_pre hc
  have hpl : c.parts.length ≤ 1000000 := by have := hc.parts8; omega
  have hl : l.length ≤ 1000000000 := by omega
  have hin := smsOf_in hc l
  have hsl := smsOf_len c l
  have hall := playT_all (xs := smsOf c l) (l := []) hpre.1 (by simp)
  have r2 := Steps13_pure c (smsOf c l) (first c) hin (by omega) hpre
  generalize playT c (smsOf c l) (first c) [] = pr at *
  obtain ⟨⟨w', ss⟩, e, k⟩ := pr
  dsimp only at hall r2
  first | refine Pure.use_le (Stmts_pure c hc l hl hok) ?_ | refine callT_le (Stmts_pure c hc l hl hok) ?_
  simp
  first | refine Pure.use_le (First9_pure c hpl) ?_ | refine callT_le (First9_pure c hpl) ?_
  simp
  first | refine Pure.use_le (r2) ?_ | refine callT_le (r2) ?_
  simp
  first | refine Pure.use_le (First9_pure c hpl) ?_ | refine callT_le (First9_pure c hpl) ?_
  simp
  first | refine Pure.use_le (Behind13_pure c (first c) ss hpre (by omega)) ?_ | refine callT_le (Behind13_pure c (first c) ss hpre (by omega)) ?_
  have hbs := behind_st (l := ss) hpre.1
  generalize behind c (first c) ss = wb at *
  have v1 : IntKind.wrap .i64 (a : Int) = (a : Int) := wrap_nat (by omega)
  have v2 : IntKind.wrap .i64 (p : Int) = (p : Int) := wrap_nat (by omega)
  have v3 : IntKind.wrap .i64 (q : Int) = (q : Int) := wrap_nat (by omega)
  simp [v1, v2, v3]
  have hm1 : ¬ (if 1 < (c.parts.length : Int) then (c.parts.length : Int) else 1) = 0 := by split <;> omega
  generalize (if 1 < (c.parts.length : Int) then (c.parts.length : Int) else 1) = m1 at *
  simp [hm1, v3]
  have hm2 : ¬ (if 1 < (c.places.length : Int) then (c.places.length : Int) else 1) = 0 := by split <;> omega
  generalize (if 1 < (c.places.length : Int) then (c.places.length : Int) else 1) = m2 at *
  simp [hm2]
  generalize hs : (⟨s0.kind, (a : Int).tmod 2, (p : Int).tmod m1, (q : Int).tmod m2, s0.n, s0.to0, s0.to1⟩ : Sp) = s
  have a1 := apply_pureG c wb s (hc.wok hbs)
  refine (a1.weaken ?_).use (gl := gl) hgo (by simp [hg, hgg, hg2]) ?_
  · subst hs; (repeat' first | exact AVsle.nil | refine AVsle.cons (AVle.any _) ?_ | refine AVsle.cons (AVle.refl _) ?_ | refine AVsle.cons AVLe.le ?_)
  have hx := refR_st (s := s) hbs
  have hb := refR_bad (s := s) (w := wb) (c := c)
  have hlen := refR_len (s := s) hbs
  generalize refR wb (doE s wb c) = y at *
  obtain ⟨v, e2⟩ := y
  dsimp only at hx hb hlen
  simp [hlen]
  have hv1 : v.wher.length ≤ 1000000000 := by have := hx.len; have := hc.parts8; omega
  refine guardK_cases (fun h5 => ?_) (fun h5 => ?_) <;> simp [h5] <;> (try simp at h5)
  · skip
    have := hb h5; subst this
    first | refine Pure.use_le (Same13_pure v v hv1) ?_ | refine callT_le (Same13_pure v v hv1) ?_
    simp [sameW]
    first | refine Pure.use_le (Right13_pure c v hc) ?_ | refine callT_le (Right13_pure c v hc) ?_
    simp
    exact endA_eq (by simp [stOk, hx]) (by simp)
  · first | refine Pure.use_le (Right13_pure c v hc) ?_ | refine callT_le (Right13_pure c v hc) ?_
    simp
    exact endA_eq (by simp [stOk, hx]) (by simp)
end Go.Proofs
