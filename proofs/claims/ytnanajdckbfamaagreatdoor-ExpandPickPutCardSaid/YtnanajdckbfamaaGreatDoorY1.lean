/- Expansion, plain laws: a statement's steps succeed, and are the reference's. -/
import Derived.Test.YtnanajdckbfamaaGreatDoorX13
set_option linter.unusedVariables false
set_option linter.unusedSimpArgs false
set_option maxRecDepth 100000
namespace Go.Proofs
open Go Go.Abs
theorem near3_mem {l : List J3} {q : J3} (h : (near3 l q).2 = true) : (near3 l q).1 ∈ l := by
  unfold near3 at h ⊢
  split at h
  · cases h
  · rename_i hl
    rw [if_neg hl]
    have hpos : 0 < l.length := by cases l with | nil => exact (hl rfl).elim | cons x l => simp
    exact getD_mem (by have := bestI_lt l q l.length; omega)
theorem reachM_spec {w : Ws} {c : Ce} {i : Int} {a : Nat} (h : (reachM w c i a).2 = true) : fits (c.arm i) (reachM w c i a).1 = true ∧ pC (c.arm i) (reachM w c i a).1 = (plat c.places a).pos ∧ dC (reachM w c i a).1 = (plat c.places a).dir := by
  have h1 : (reachM w c i a).1 ∈ sol (c.arm i) (plat c.places a).pos (plat c.places a).dir := near3_mem h
  rw [sol_eq] at h1
  have h2 := all_mem.1 h1
  refine ⟨h2.1, ?_⟩
  have := h2.2
  unfold reaches at this
  simpa using this
theorem reachM_eq {w w' : Ws} {c : Ce} {i : Int} {a : Nat} (h : w'.q i = w.q i) : reachM w' c i a = reachM w c i a := by unfold reachM; rw [h]
theorem doE_go {w : Ws} {c : Ce} {i : Int} {q : J3} (hi : i = 0 ∨ i = 1) (h : fits (c.arm i) q = true) : doE (goStep i q) w c = .ok (w.setQ i q) := by
  rcases hi with rfl | rfl <;> simp [doE, goStep, doGo, Sp.to] <;> (first | exact h | simpa using h)
theorem doE_take {w : Ws} {c : Ce} {i p a : Int} (hi : i = 0 ∨ i = 1) (hp : 0 ≤ p ∧ p < c.parts.length) (ha : 0 ≤ a ∧ a < c.places.length) (hh : w.held i < 0) (hw : iat w.wher p.toNat = a) (ht : thereB w c i a.toNat = true) :
    doE ⟨3, i, p, a, 0, j0', j0'⟩ w c = .ok ((w.setHeld i p).lay p.toNat (-1)) := by
  unfold doE doTake
  have k : knownB ⟨3, i, p, a, 0, j0', j0'⟩ c = true := by simp [knownB]; omega
  rw [if_neg (by simp; omega)]
  simp only [k, ht]
  simp [hh, hw]
theorem doE_leave {w : Ws} {c : Ce} {i p a : Int} (hi : i = 0 ∨ i = 1) (hp : 0 ≤ p ∧ p < c.parts.length) (ha : 0 ≤ a ∧ a < c.places.length) (hh : w.held i = p) (hw : ¬ a ∈ w.wher) (ht : thereB w c i a.toNat = true) :
    doE ⟨4, i, p, a, 0, j0', j0'⟩ w c = .ok ((w.setHeld i (-1)).lay p.toNat a) := by
  unfold doE doLeave
  have k : knownB ⟨4, i, p, a, 0, j0', j0'⟩ c = true := by simp [knownB]; omega
  rw [if_neg (by simp; omega)]
  simp only [k, ht]
  simp [hh, hw]
theorem thereB_of {w : Ws} {c : Ce} {i : Int} {a : Nat} (h1 : pC (c.arm i) (w.q i) = (plat c.places a).pos) (h2 : dC (w.q i) = (plat c.places a).dir) : thereB w c i a = true := by
  unfold thereB; simp [h1, h2]
/-- The reference's steps of one statement. -/
def pickR (x : Sb) (w : Ws) (c : Ce) : List Sp × Int :=
  if ¬ w.held x.arm = -1 then ([], 130) else if iat w.wher (partIx c x.part).toNat = -1 then ([], 132) else
  if (reachM w c x.arm (iat w.wher (partIx c x.part).toNat).toNat).2 = false then ([], 134) else
  ([goStep x.arm (reachM w c x.arm (iat w.wher (partIx c x.part).toNat).toNat).1, ⟨3, x.arm, partIx c x.part, iat w.wher (partIx c x.part).toNat, 0, j0', j0'⟩], 0)
def putR (x : Sb) (w : Ws) (c : Ce) : List Sp × Int :=
  if w.held x.arm = -1 then ([], 131) else if x.kind = 5 ∧ ¬ w.held (1 - x.arm) = -1 then ([], 130) else if placeIx c x.place ∈ w.wher then ([], 133) else
  if (reachM w c x.arm (placeIx c x.place).toNat).2 = false then ([], 134) else
  if x.kind = 4 then ([goStep x.arm (reachM w c x.arm (placeIx c x.place).toNat).1, ⟨4, x.arm, w.held x.arm, placeIx c x.place, 0, j0', j0'⟩], 0) else
  if (reachM w c (1 - x.arm) (placeIx c x.place).toNat).2 = false then ([], 134) else
  ([goStep x.arm (reachM w c x.arm (placeIx c x.place).toNat).1, ⟨4, x.arm, w.held x.arm, placeIx c x.place, 0, j0', j0'⟩,
    goStep x.arm (w.q x.arm), goStep (1 - x.arm) (reachM w c (1 - x.arm) (placeIx c x.place).toNat).1, ⟨3, 1 - x.arm, w.held x.arm, placeIx c x.place, 0, j0', j0'⟩], 0)
def plainR (x : Sb) (w : Ws) (c : Ce) : List Sp × Int :=
  if x.kind = 1 then ([goStep x.arm (x.to x.arm)], 0) else if x.kind = 2 then ([goStep x.arm (c.home x.arm)], 0) else if x.kind = 3 then pickR x w c else
  if x.kind = 4 ∨ x.kind = 5 then putR x w c else if x.kind = 6 then ([⟨5, 0, 0, 0, x.n, j0', j0'⟩], 0) else ([⟨2, 0, 0, 0, 0, x.to0, x.to1⟩], 0)
/-- A statement within the arms' limits. -/
structure SbIn (x : Sb) (c : Ce) : Prop where
  ok : SbOk x c
  go : x.kind = 1 → fits (c.arm x.arm) (x.to x.arm) = true
  both : x.kind = 8 → fits c.a0 x.to0 = true ∧ fits c.a1 x.to1 = true
  n : 0 ≤ x.n ∧ x.n ≤ 2000
/-- Steps, executed one after the other. -/
def execM (c : Ce) : List Sp → Ws → Except Int Ws
  | [], w => .ok w
  | s :: l, w => match doE s w c with
    | .ok w' => execM c l w'
    | .error k => .error k
def refOut (p : List Sp × Int) (w : Ws) (c : Ce) (l : List Sp) : Out := if ¬ p.2 = 0 then .error p.2 else .ok (behind c w p.1, l ++ p.1)
theorem behind_ok {c : Ce} {s : Sp} {l : List Sp} {w w' : Ws} (h : doE s w c = .ok w') : behind c w (s :: l) = behind c w' l := by
  rw [behind, refR_ok h]
theorem arm_other {i : Int} (hi : i = 0 ∨ i = 1) : 1 - i = 0 ∨ 1 - i = 1 := by omega
section
variable {w : Ws} {i : Int} {q : J3} {h x : Int} {p : Nat}
@[simp] theorem Ws.setQ_wher : (w.setQ i q).wher = w.wher := by unfold Ws.setQ; split <;> rfl
@[simp] theorem Ws.setQ_held (j : Int) : (w.setQ i q).held j = w.held j := by unfold Ws.setQ Ws.held; split <;> split <;> rfl
@[simp] theorem Ws.setQ_q (hi : i = 0 ∨ i = 1) : (w.setQ i q).q i = q := by rcases hi with rfl | rfl <;> rfl
@[simp] theorem Ws.setQ_qo (hi : i = 0 ∨ i = 1) : (w.setQ i q).q (1 - i) = w.q (1 - i) := by rcases hi with rfl | rfl <;> rfl
@[simp] theorem Ws.setQ_qo' (hi : i = 0 ∨ i = 1) : (w.setQ (1 - i) q).q i = w.q i := by rcases hi with rfl | rfl <;> rfl
@[simp] theorem Ws.setHeld_q (j : Int) : (w.setHeld i h).q j = w.q j := by unfold Ws.setHeld Ws.q; split <;> split <;> rfl
@[simp] theorem Ws.setHeld_wher : (w.setHeld i h).wher = w.wher := by unfold Ws.setHeld; split <;> rfl
@[simp] theorem Ws.setHeld_held (hi : i = 0 ∨ i = 1) : (w.setHeld i h).held i = h := by rcases hi with rfl | rfl <;> rfl
@[simp] theorem Ws.setHeld_heldo (hi : i = 0 ∨ i = 1) : (w.setHeld i h).held (1 - i) = w.held (1 - i) := by rcases hi with rfl | rfl <;> rfl
@[simp] theorem Ws.setHeld_heldo' (hi : i = 0 ∨ i = 1) : (w.setHeld (1 - i) h).held i = w.held i := by rcases hi with rfl | rfl <;> rfl
@[simp] theorem Ws.lay_q (j : Int) : (w.lay p x).q j = w.q j := rfl
@[simp] theorem Ws.lay_held (j : Int) : (w.lay p x).held j = w.held j := rfl
@[simp] theorem Ws.lay_wher : (w.lay p x).wher = w.wher.set p x := rfl
end
theorem StOk.held {w : Ws} {c : Ce} (h : StOk w c) (i : Int) : -1 ≤ w.held i ∧ w.held i < c.parts.length := by unfold Ws.held; split; exact h.h0; exact h.h1
theorem StOk.fit {w : Ws} {c : Ce} (h : StOk w c) (i : Int) : fits (c.arm i) (w.q i) = true := by unfold Ce.arm Ws.q; split; exact h.fit0; exact h.fit1
theorem partIx_bd {c : Ce} {s : ByteArray} (h : 0 ≤ partIx c s) : partIx c s < c.parts.length := by have := partIx_lt h; omega
theorem placeIx_bd {c : Ce} {s : ByteArray} (h : 0 ≤ placeIx c s) : placeIx c s < c.places.length := by have := placeIx_lt h; omega
theorem pickM_ref {x : Sb} {w : Ws} {c : Ce} {l : List Sp} (hst : StOk w c) (ha : x.arm = 0 ∨ x.arm = 1) (hp : 0 ≤ partIx c x.part) : pickM x w c l = refOut (pickR x w c) w c l := by
  have hpl := partIx_lt hp
  have hpb := partIx_bd hp
  have hpw : (partIx c x.part).toNat < w.wher.length := by rw [hst.len]; exact hpl
  have hv := hst.vals _ hpw
  have hh := hst.held x.arm
  unfold pickM pickR
  generalize hP : partIx c x.part = P at *
  by_cases h1 : w.held x.arm < 0
  · rw [if_neg (c := ¬ w.held x.arm < 0) (by omega), if_neg (c := ¬ w.held x.arm = -1) (by omega)]
    generalize hA : iat w.wher P.toNat = A at *
    by_cases h2 : 0 ≤ A
    · rw [if_neg (c := ¬ 0 ≤ A) (by omega), if_neg (c := A = -1) (by omega)]
      by_cases h3 : (reachM w c x.arm A.toNat).2 = true
      · have h3' : ¬ (reachM w c x.arm A.toNat).2 = false := by simp [h3]
        rw [if_neg h3', if_neg h3']
        obtain ⟨r1, r2, r3⟩ := reachM_spec h3
        have d1 := doE_go (w := w) ha r1
        have d2 := doE_take (w := w.setQ x.arm (reachM w c x.arm A.toNat).1) (c := c) (p := P) (a := A) ha ⟨hp, hpb⟩ ⟨h2, hv.2⟩ (by simpa using h1) (by simpa using hA) (thereB_of (by simp [ha, r2]) (by simp [ha, r3]))
        rw [andThen_ok (stepM_ok d1), stepM_ok d2]
        simp only [refOut, not_true_eq_false, if_false, behind_ok d1, behind_ok d2]
        simp [behind]
      · have h3' : (reachM w c x.arm A.toNat).2 = false := by simpa using h3
        rw [if_pos h3', if_pos h3']; rfl
    · rw [if_pos (c := ¬ 0 ≤ A) (by omega), if_pos (c := A = -1) (by omega)]; rfl
  · rw [if_pos (c := ¬ w.held x.arm < 0) (by omega), if_pos (c := ¬ w.held x.arm = -1) (by omega)]; rfl
theorem putM_ref {x : Sb} {w : Ws} {c : Ce} {l : List Sp} (hst : StOk w c) (ha : x.arm = 0 ∨ x.arm = 1) (hp : 0 ≤ placeIx c x.place) (hk : x.kind = 4 ∨ x.kind = 5) : putM x w c l = refOut (putR x w c) w c l := by
  have hpl := placeIx_lt hp
  have hpb := placeIx_bd hp
  have hh := hst.held x.arm
  have hh' := hst.held (1 - x.arm)
  have hw8 := hst.len
  have ha' := arm_other ha
  unfold putM putR
  generalize hP : placeIx c x.place = A at *
  generalize hH : w.held x.arm = p at *
  by_cases h1 : 0 ≤ p
  · rw [if_neg (c := ¬ 0 ≤ p) (by omega), if_neg (c := p = -1) (by omega)]
    by_cases h2 : x.kind = 4 ∨ w.held (1 - x.arm) < 0
    · rw [if_neg (c := ¬ (x.kind = 4 ∨ w.held (1 - x.arm) < 0)) (by omega), if_neg (c := x.kind = 5 ∧ ¬ w.held (1 - x.arm) = -1) (by omega)]
      by_cases h3 : A ∈ w.wher
      · rw [if_pos h3, if_pos h3]; rfl
      rw [if_neg h3, if_neg h3]
      by_cases h4 : (reachM w c x.arm A.toNat).2 = true
      · have h4' : ¬ (reachM w c x.arm A.toNat).2 = false := by simp [h4]
        rw [if_neg h4', if_neg h4']
        obtain ⟨r1, r2, r3⟩ := reachM_spec h4
        have d1 := doE_go (w := w) ha r1
        have d2 := doE_leave (w := w.setQ x.arm (reachM w c x.arm A.toNat).1) (c := c) (p := p) (a := A) ha ⟨h1, hh.2⟩ ⟨hp, hpb⟩ (by simpa using hH) (by simpa using h3) (thereB_of (by simp [ha, r2]) (by simp [ha, r3]))
        rw [andThen_ok (stepM_ok d1), andThen_ok (stepM_ok d2)]
        by_cases h5 : x.kind = 4
        · rw [if_pos h5, if_pos h5]
          simp only [refOut, not_true_eq_false, if_false, behind_ok d1, behind_ok d2]
          simp [behind]
        rw [if_neg h5, if_neg h5]
        simp only
        have he : reachM (((w.setQ x.arm (reachM w c x.arm A.toNat).1).setHeld x.arm (-1)).lay p.toNat A) c (1 - x.arm) A.toNat = reachM w c (1 - x.arm) A.toNat := reachM_eq (by simp [ha])
        rw [he]
        by_cases h6 : (reachM w c (1 - x.arm) A.toNat).2 = true
        · have h6' : ¬ (reachM w c (1 - x.arm) A.toNat).2 = false := by simp [h6]
          rw [if_neg h6', if_neg h6']
          obtain ⟨q1, q2, q3⟩ := reachM_spec h6
          have h7 : w.held (1 - x.arm) < 0 := by omega
          have d3 := doE_go (w := ((w.setQ x.arm (reachM w c x.arm A.toNat).1).setHeld x.arm (-1)).lay p.toNat A) (c := c) (q := w.q x.arm) ha (hst.fit _)
          have d4 := doE_go (w := (((w.setQ x.arm (reachM w c x.arm A.toNat).1).setHeld x.arm (-1)).lay p.toNat A).setQ x.arm (w.q x.arm)) ha' q1
          have d5 := doE_take (w := ((((w.setQ x.arm (reachM w c x.arm A.toNat).1).setHeld x.arm (-1)).lay p.toNat A).setQ x.arm (w.q x.arm)).setQ (1 - x.arm) (reachM w c (1 - x.arm) A.toNat).1) (c := c) (p := p) (a := A) ha' ⟨h1, hh.2⟩ ⟨hp, hpb⟩ (by simpa [ha] using h7) (by simp; rw [iat_set _ _ _ _ (by omega), if_pos rfl]) (thereB_of (by simp [ha', q2]) (by simp [ha', q3]))
          rw [andThen_ok (stepM_ok d3), andThen_ok (stepM_ok d4), stepM_ok d5]
          simp only [refOut, not_true_eq_false, if_false, behind_ok d1, behind_ok d2, behind_ok d3, behind_ok d4, behind_ok d5]
          simp [behind]
        · have h6' : (reachM w c (1 - x.arm) A.toNat).2 = false := by simpa using h6
          rw [if_pos h6', if_pos h6']; rfl
      · have h4' : (reachM w c x.arm A.toNat).2 = false := by simpa using h4
        rw [if_pos h4', if_pos h4']; rfl
    · rw [if_pos (c := ¬ (x.kind = 4 ∨ w.held (1 - x.arm) < 0)) (by omega), if_pos (c := x.kind = 5 ∧ ¬ w.held (1 - x.arm) = -1) (by omega)]; rfl
  · rw [if_pos (c := ¬ 0 ≤ p) (by omega), if_pos (c := p = -1) (by omega)]; rfl
theorem stmtM_ref {x : Sb} {w : Ws} {c : Ce} {l : List Sp} (hst : StOk w c) (hc : RightC c) (hx : SbIn x c) : stmtM x w c l = refOut (plainR x w c) w c l := by
  have ha := hx.ok.arm
  have hk := hx.ok.kind
  have one : ∀ {s : Sp} {w' : Ws}, doE s w c = .ok w' → stepM s w c l = refOut ([s], 0) w c l := fun h => by rw [stepM_ok h]; simp only [refOut, not_true_eq_false, if_false, behind_ok h]; rfl
  unfold stmtM plainR
  by_cases k1 : x.kind = 1
  · rw [if_pos k1, if_pos k1]; exact one (doE_go ha (hx.go k1))
  rw [if_neg k1, if_neg k1]
  by_cases k2 : x.kind = 2
  · rw [if_pos k2, if_pos k2]
    exact one (doE_go ha (by unfold Ce.arm Ce.home; split; exact hc.fit0; exact hc.fit1))
  rw [if_neg k2, if_neg k2]
  by_cases k3 : x.kind = 3
  · rw [if_pos k3, if_pos k3]; exact pickM_ref hst ha (hx.ok.part k3)
  rw [if_neg k3, if_neg k3]
  by_cases k4 : x.kind = 4 ∨ x.kind = 5
  · rw [if_pos k4, if_pos k4]; exact putM_ref hst ha (hx.ok.place k4) k4
  rw [if_neg k4, if_neg k4]
  by_cases k6 : x.kind = 6
  · rw [if_pos k6, if_pos k6]
    refine one (w' := w) ?_
    simp [doE, doWait, ckE]
    exact hx.n
  rw [if_neg k6, if_neg k6]
  refine one (w' := { w with q0 := x.to0, q1 := x.to1 }) ?_
  have := hx.both (by omega)
  simp [doE, doBoth, this]
theorem play1M_ref {x : Sb} {w : Ws} {c : Ce} {l : List Sp} (hst : StOk w c) (hc : RightC c) (hx : SbIn x c) :
    play1M x w c l = if ¬ (plainR x w c).2 = 0 then .error (plainR x w c).2 else if l.length + (plainR x w c).1.length ≤ 300 then .ok (behind c w (plainR x w c).1, l ++ (plainR x w c).1) else .error 2 := by
  unfold play1M
  rw [stmtM_ref hst hc hx]
  unfold refOut
  split
  · rfl
  · simp [andThen]
end Go.Proofs
