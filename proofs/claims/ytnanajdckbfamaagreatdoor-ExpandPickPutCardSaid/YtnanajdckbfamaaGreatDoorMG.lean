/- Y4, Y5, Y6, joined. -/
import Derived.Test.YtnanajdckbfamaaGreatDoorY3
import Derived.Test.YtnanajdckbfamaaGreatDoorY1
import Derived.Test.YtnanajdckbfamaaGreatDoorX17
/- Expansion, plain laws: the steps of an expansion succeed, one after the other. -/
set_option linter.unusedVariables false
set_option linter.unusedSimpArgs false
set_option maxRecDepth 100000
namespace Go.Proofs
open Go Go.Abs
theorem execM_cons {c : Ce} {s : Sp} {l : List Sp} {w : Ws} : execM c (s :: l) w = match doE s w c with
    | .ok w' => execM c l w'
    | .error k => .error k := by rw [execM]; rfl
theorem playT_cons {c : Ce} {x : Sb} {ks : List Sb} {xs : List Sm} {w : Ws} {l : List Sp} : playT c ((x, ks) :: xs) w l = if x.kind = 7 then
      if iat w.wher (partIx c x.part).toNat = placeIx c x.place then
        if (playB c ks w l).2.1 = 0 then playT c xs (playB c ks w l).1.1 (playB c ks w l).1.2 else playB c ks w l
      else playT c xs w l
    else match play1M x w c l with
      | .ok y => playT c xs y.1 y.2
      | .error k => ((w, l), (k, x.at')) := by rw [playT]; rfl
theorem playB_cons {c : Ce} {x : Sb} {xs : List Sb} {w : Ws} {l : List Sp} : playB c (x :: xs) w l = match play1M x w c l with
      | .ok y => playB c xs y.1 y.2
      | .error k => ((w, l), (k, x.at')) := by rw [playB]; rfl
theorem execM_append {c : Ce} {k : List Sp} : ∀ {l : List Sp} {w w' : Ws}, execM c l w = .ok w' → execM c (l ++ k) w = execM c k w'
  | [], w, w', h => by injection h with h; subst h; rfl
  | s :: l, w, w', h => by
    rw [List.cons_append, execM_cons]
    rw [execM_cons] at h
    cases hd : doE s w c with
    | ok w1 => rw [hd] at h; simp only at h ⊢; exact execM_append h
    | error e => rw [hd] at h; cases h
/-- What is appended has been executed. -/
def Ex (c : Ce) (w : Ws) (l : List Sp) (out : Out) : Prop := ∀ y, out = .ok y → ∃ k, y.2 = l ++ k ∧ execM c k w = .ok y.1
theorem ex_err {c : Ce} {w : Ws} {l : List Sp} {k : Int} : Ex c w l (.error k) := fun y h => by cases h
theorem ex_id {c : Ce} {w : Ws} {l : List Sp} : Ex c w l (.ok (w, l)) := fun y h => by injection h with h; subst h; exact ⟨[], by simp, rfl⟩
theorem ex_step {c : Ce} {w : Ws} {l : List Sp} {s : Sp} : Ex c w l (stepM s w c l) := fun y h => by
  obtain ⟨h1, h2⟩ := stepM_inv h
  exact ⟨[s], h2, by unfold execM; rw [h1]; rfl⟩
theorem ex_then {c : Ce} {w : Ws} {l : List Sp} {x : Out} {f : Ws → List Sp → Out} (h : Ex c w l x) (hf : ∀ w' l', Ex c w' l' (f w' l')) : Ex c w l (andThen x f) := fun y hy => by
  cases x with
  | error k => cases hy
  | ok z =>
    obtain ⟨k, h1, h2⟩ := h z rfl
    obtain ⟨k', h3, h4⟩ := hf z.1 z.2 y hy
    exact ⟨k ++ k', by rw [h3, h1, List.append_assoc], by rw [execM_append h2]; exact h4⟩
theorem ex_if {p : Prop} [Decidable p] {c : Ce} {w : Ws} {l : List Sp} {x z : Out} (h1 : Ex c w l x) (h2 : Ex c w l z) : Ex c w l (if p then x else z) := by split; exact h1; exact h2
theorem ex_pick {c : Ce} {w : Ws} {l : List Sp} {x : Sb} : Ex c w l (pickM x w c l) := by
  unfold pickM
  exact ex_if ex_err (ex_if ex_err (ex_if ex_err (ex_then ex_step fun _ _ => ex_step)))
theorem ex_put {c : Ce} {w : Ws} {l : List Sp} {x : Sb} : Ex c w l (putM x w c l) := by
  unfold putM
  exact ex_if ex_err (ex_if ex_err (ex_if ex_err (ex_if ex_err (ex_then ex_step fun _ _ => ex_then ex_step fun _ _ => ex_if ex_id (ex_if ex_err (ex_then ex_step fun _ _ => ex_then ex_step fun _ _ => ex_step))))))
theorem ex_stmt {c : Ce} {w : Ws} {l : List Sp} {x : Sb} : Ex c w l (stmtM x w c l) := by
  unfold stmtM
  exact ex_if ex_step (ex_if ex_step (ex_if ex_pick (ex_if ex_put (ex_if ex_step ex_step))))
theorem ex_play1 {c : Ce} {w : Ws} {l : List Sp} {x : Sb} : Ex c w l (play1M x w c l) := by
  unfold play1M
  exact ex_then ex_stmt fun _ _ => ex_if ex_id ex_err
theorem exec_playB {c : Ce} : ∀ {xs : List Sb} {w : Ws} {l : List Sp}, ∃ k, (playB c xs w l).1.2 = l ++ k ∧ execM c k w = .ok (playB c xs w l).1.1
  | [], w, l => ⟨[], by simp [playB], rfl⟩
  | x :: xs, w, l => by
    rw [playB_cons]
    cases hp : play1M x w c l with
    | error e => exact ⟨[], by simp, rfl⟩
    | ok y =>
      obtain ⟨k, h1, h2⟩ := ex_play1 y hp
      obtain ⟨k', h3, h4⟩ := exec_playB (c := c) (xs := xs) (w := y.1) (l := y.2)
      exact ⟨k ++ k', by simp only; rw [h3, h1, List.append_assoc], by rw [execM_append h2]; exact h4⟩
theorem exec_playT {c : Ce} : ∀ {xs : List Sm} {w : Ws} {l : List Sp}, ∃ k, (playT c xs w l).1.2 = l ++ k ∧ execM c k w = .ok (playT c xs w l).1.1
  | [], w, l => ⟨[], by simp [playT], rfl⟩
  | (x, ks) :: xs, w, l => by
    rw [playT_cons]
    split
    · split
      · obtain ⟨k, h1, h2⟩ := exec_playB (c := c) (xs := ks) (w := w) (l := l)
        split
        · obtain ⟨k', h3, h4⟩ := exec_playT (c := c) (xs := xs) (w := (playB c ks w l).1.1) (l := (playB c ks w l).1.2)
          exact ⟨k ++ k', by rw [h3, h1, List.append_assoc], by rw [execM_append h2]; exact h4⟩
        · exact ⟨k, h1, h2⟩
      · exact exec_playT
    · cases hp : play1M x w c l with
      | error e => exact ⟨[], by simp, rfl⟩
      | ok y =>
        obtain ⟨k, h1, h2⟩ := ex_play1 y hp
        obtain ⟨k', h3, h4⟩ := exec_playT (c := c) (xs := xs) (w := y.1) (l := y.2)
        exact ⟨k ++ k', by simp only; rw [h3, h1, List.append_assoc], by rw [execM_append h2]; exact h4⟩
/-- Each step of an expansion succeeds behind those before it. -/
theorem exec_get {c : Ce} : ∀ {l : List Sp} {w w' : Ws} {i : Nat}, execM c l w = .ok w' → i < l.length → doE (spat l i) (behind c w (l.take i)) c = .ok (behind c w (l.take (i + 1)))
  | [], w, w', i, h, hi => by simp at hi
  | s :: l, w, w', i, h, hi => by
    unfold execM at h
    cases hd : doE s w c with
    | error e => rw [hd] at h; cases h
    | ok w1 =>
      rw [hd] at h
      cases i with
      | zero => show doE s w c = .ok (behind c w [s]); rw [behind_ok hd, hd]; rfl
      | succ i =>
        have := exec_get (i := i) h (by simpa using hi)
        show doE (spat l i) (behind c w (s :: l.take i)) c = .ok (behind c w (s :: l.take (i + 1)))
        rw [behind_ok hd, behind_ok hd]; exact this
end Go.Proofs

/- Expansion, plain laws: programs one behind the other. -/
set_option linter.unusedVariables false
set_option linter.unusedSimpArgs false
set_option maxRecDepth 100000
namespace Go.Proofs
open Go Go.Abs
/-- Playing behind steps that are there already: as from nothing, while there is room. -/
theorem play1_pre {x : Sb} {w : Ws} {c : Ce} {p l : List Sp} (hst : StOk w c) (hc : RightC c) (hx : SbIn x c) (hr : p.length + l.length + 5 ≤ 300) :
    play1M x w c (p ++ l) = match play1M x w c l with | .ok y => .ok (y.1, p ++ y.2) | .error k => .error k := by
  rw [play1M_ref hst hc hx, play1M_ref hst hc hx]
  have h5 := plainR_len (x := x) (w := w) (c := c)
  split
  · rfl
  · rw [if_pos (by simp only [List.length_append]; omega), if_pos (by omega)]
    simp
theorem play1_len {x : Sb} {w : Ws} {c : Ce} {l : List Sp} {y : Ws × List Sp} (hst : StOk w c) (hc : RightC c) (hx : SbIn x c) (h : play1M x w c l = .ok y) : y.2.length ≤ l.length + 5 := by
  rw [play1M_ref hst hc hx] at h
  have h5 := plainR_len (x := x) (w := w) (c := c)
  split at h
  · cases h
  · split at h
    · injection h with h; subst h; simp; omega
    · cases h
def preR (p : List Sp) (r : (Ws × List Sp) × (Int × Int)) : (Ws × List Sp) × (Int × Int) := ((r.1.1, p ++ r.1.2), r.2)
theorem playB_len {c : Ce} (hc : RightC c) : ∀ {xs : List Sb} {w : Ws} {l : List Sp}, StOk w c → (∀ x ∈ xs, SbIn x c) → (playB c xs w l).1.2.length ≤ l.length + 5 * xs.length
  | [], w, l, _, _ => by simp [playB]
  | x :: xs, w, l, hst, hx => by
    rw [playB_cons]
    cases hp : play1M x w c l with
    | error e => simp
    | ok y =>
      have h1 := play1_len hst hc (hx x (by simp)) hp
      have h2 := playB_len hc (xs := xs) (w := y.1) (l := y.2) (play1M_st hst hp).1 (fun z hz => hx z (by simp [hz]))
      simp only [List.length_cons]
      omega
theorem playB_pre {c : Ce} (hc : RightC c) {p : List Sp} : ∀ {xs : List Sb} {w : Ws} {l : List Sp}, StOk w c → (∀ x ∈ xs, SbIn x c) → p.length + l.length + 5 * xs.length ≤ 300 → playB c xs w (p ++ l) = preR p (playB c xs w l)
  | [], w, l, _, _, _ => rfl
  | x :: xs, w, l, hst, hx, hr => by
    simp only [List.length_cons] at hr
    rw [playB_cons, playB_cons, play1_pre hst hc (hx x (by simp)) (by omega)]
    cases hp : play1M x w c l with
    | error e => rfl
    | ok y =>
      have h1 := play1_len hst hc (hx x (by simp)) hp
      have := playB_pre hc (p := p) (xs := xs) (w := y.1) (l := y.2) (play1M_st hst hp).1 (fun z hz => hx z (by simp [hz])) (by omega)
      exact this
/-- At most four kids. -/
def Few (xs : List Sm) : Prop := ∀ x ∈ xs, x.2.length ≤ 4
theorem playT_len {c : Ce} (hc : RightC c) : ∀ {xs : List Sm} {w : Ws} {l : List Sp}, StOk w c → l.length ≤ 300 → (∀ x ∈ xs, SmIn x c) → Few xs → (playT c xs w l).1.2.length ≤ l.length + 20 * xs.length
  | [], w, l, _, _, _, _ => by simp [playT]
  | (x, ks) :: xs, w, l, hst, hl, hx, hf => by
    have hk := hf (x, ks) (by simp)
    have hi := hx (x, ks) (by simp)
    have hx' : ∀ z ∈ xs, SmIn z c := fun z hz => hx z (by simp [hz])
    have hf' : Few xs := fun z hz => hf z (by simp [hz])
    simp only at hk
    simp only [List.length_cons]
    rw [playT_cons]
    split
    · split
      · have h1 := playB_len hc (xs := ks) (l := l) hst hi.kids
        have h2 := playB_st (xs := ks) hst hl
        split
        · have h3 := playT_len hc (xs := xs) h2.1 h2.2 hx' hf'
          omega
        · omega
      · have h3 := playT_len hc (xs := xs) (l := l) hst hl hx' hf'
        omega
    · rename_i h7
      cases hp : play1M x w c l with
      | error e => simp only; omega
      | ok y =>
        have h1 := play1_len hst hc (hi.flat h7) hp
        have h2 := play1M_st hst hp
        have h3 := playT_len hc (xs := xs) h2.1 h2.2 hx' hf'
        simp only; omega
theorem playT_pre {c : Ce} (hc : RightC c) {p : List Sp} : ∀ {xs : List Sm} {w : Ws} {l : List Sp}, StOk w c → (∀ x ∈ xs, SmIn x c) → Few xs → p.length + l.length + 20 * xs.length ≤ 300 → playT c xs w (p ++ l) = preR p (playT c xs w l)
  | [], w, l, _, _, _, _ => rfl
  | (x, ks) :: xs, w, l, hst, hx, hf, hr => by
    have hk := hf (x, ks) (by simp)
    have hi := hx (x, ks) (by simp)
    have hx' : ∀ z ∈ xs, SmIn z c := fun z hz => hx z (by simp [hz])
    have hf' : Few xs := fun z hz => hf z (by simp [hz])
    simp only at hk
    simp only [List.length_cons] at hr
    rw [playT_cons, playT_cons]
    split
    · split
      · have h1 := playB_len hc (xs := ks) (l := l) hst hi.kids
        have h2 := playB_st (xs := ks) (l := l) hst (by omega)
        rw [playB_pre hc (p := p) (xs := ks) hst hi.kids (by omega)]
        show (if (playB c ks w l).2.1 = 0 then playT c xs (playB c ks w l).1.1 (p ++ (playB c ks w l).1.2) else preR p (playB c ks w l)) = _
        split
        · exact playT_pre hc (xs := xs) h2.1 hx' hf' (by omega)
        · rfl
      · exact playT_pre hc (xs := xs) hst hx' hf' (by omega)
    · rename_i h7
      rw [play1_pre hst hc (hi.flat h7) (by omega)]
      cases hp : play1M x w c l with
      | error e => rfl
      | ok y =>
        have h1 := play1_len hst hc (hi.flat h7) hp
        exact playT_pre hc (xs := xs) (w := y.1) (l := y.2) (play1M_st hst hp).1 hx' hf' (by omega)
/-- Programs one behind the other. -/
theorem playT_app {c : Ce} {ys : List Sm} : ∀ {xs : List Sm} {w : Ws} {l : List Sp}, playT c (xs ++ ys) w l = if (playT c xs w l).2.1 = 0 then playT c ys (playT c xs w l).1.1 (playT c xs w l).1.2 else playT c xs w l
  | [], w, l => by simp [playT]
  | (x, ks) :: xs, w, l => by
    rw [List.cons_append, playT_cons, playT_cons]
    split
    · split
      · split
        · exact playT_app
        · rename_i h; rfl
      · exact playT_app
    · cases hp : play1M x w c l with
      | error k => have := play1M_errp hp; simp only; rw [if_neg (by omega)]
      | ok y => exact playT_app
end Go.Proofs

/- Expansion, plain laws: what Pick, Put and Hand do. -/
set_option linter.unusedVariables false
set_option linter.unusedSimpArgs false
set_option maxRecDepth 100000
namespace Go.Proofs
open Go Go.Abs
theorem sat_part {l : List Pt} {i : Nat} (h : i < l.length) : sat (l.map Pt.name) i = (ptat l i).name := by rw [sat_map, ptat_get h]
theorem sat_plc {l : List Pc} {i : Nat} (h : i < l.length) : sat (l.map Pc.name) i = (plat l i).name := by rw [sat_map, plat_get h]
/-- A part is found by its own name. -/
theorem partIx_self {c : Ce} (hc : RightC c) {p : Nat} (h : p < c.parts.length) : partIx c (ptat c.parts p).name = p := by
  have hn := (of_decide_eq_true (of_decide_eq_true hc.parts : partsP _ _).2.2.1 : namesP _)
  refine partIx_found h rfl fun j hj e => ?_
  have := (hn p (by simpa using h)).2 j hj
  rw [sat_part (by omega), sat_part h] at this
  exact this e
theorem placeIx_self {c : Ce} (hc : RightC c) {p : Nat} (h : p < c.places.length) : placeIx c (plat c.places p).name = p := by
  have hn := (of_decide_eq_true (of_decide_eq_true hc.places : placesP _).2.2 : namesP _)
  refine placeIx_found h rfl fun j hj e => ?_
  have := (hn p (by simpa using h)).2 j hj
  rw [sat_plc (by omega), sat_plc h] at this
  exact this e
/-- The state behind a Pick. -/
theorem pick_behind {x : Sb} {w : Ws} {c : Ce} (hst : StOk w c) (ha : x.arm = 0 ∨ x.arm = 1) (hp : 0 ≤ partIx c x.part) (h0 : (pickR x w c).2 = 0) :
    (behind c w (pickR x w c).1).held x.arm = partIx c x.part ∧ iat (behind c w (pickR x w c).1).wher (partIx c x.part).toNat = -1 := by
  have hpl := partIx_lt hp
  have hpb := partIx_bd hp
  have hpw : (partIx c x.part).toNat < w.wher.length := by rw [hst.len]; exact hpl
  have hv := hst.vals _ hpw
  have hh := hst.held x.arm
  unfold pickR at h0 ⊢
  generalize hP : partIx c x.part = P at *
  split at h0
  · cases h0
  rename_i h1
  rw [if_neg h1]
  generalize hA : iat w.wher P.toNat = A at *
  split at h0
  · cases h0
  rename_i h2
  rw [if_neg h2]
  split at h0
  · cases h0
  rename_i h3
  rw [if_neg h3]
  have h3' : (reachM w c x.arm A.toNat).2 = true := by simpa using h3
  obtain ⟨r1, r2, r3⟩ := reachM_spec h3'
  have d1 := doE_go (w := w) ha r1
  have d2 := doE_take (w := w.setQ x.arm (reachM w c x.arm A.toNat).1) (c := c) (p := P) (a := A) ha ⟨hp, hpb⟩ ⟨by omega, hv.2⟩ (by simp; omega) (by simpa using hA) (thereB_of (by simp [ha, r2]) (by simp [ha, r3]))
  rw [behind_ok d1, behind_ok d2, behind]
  refine ⟨by simp [ha], ?_⟩
  simp
  rw [iat_set _ _ _ _ hpw, if_pos rfl]
theorem put_start {x : Sb} {w : Ws} {c : Ce} (hst : StOk w c) (ha : x.arm = 0 ∨ x.arm = 1) (hp : 0 ≤ placeIx c x.place) (hk : x.kind = 4 ∨ x.kind = 5) (h0 : (putR x w c).2 = 0) :
    0 ≤ w.held x.arm ∧ (x.kind = 4 → (putR x w c).1.length = 2 ∧ (behind c w (putR x w c).1).held x.arm = -1 ∧ iat (behind c w (putR x w c).1).wher (w.held x.arm).toNat = placeIx c x.place) ∧
    (x.kind = 5 → (putR x w c).1.length = 5 ∧ (behind c w (putR x w c).1).held (1 - x.arm) = w.held x.arm ∧ (behind c w (putR x w c).1).held x.arm = -1 ∧ (behind c w (putR x w c).1).q x.arm = w.q x.arm ∧ (behind c w (putR x w c).1).wher = w.wher) := by
  have hpl := placeIx_lt hp
  have hpb := placeIx_bd hp
  have hh := hst.held x.arm
  have hh' := hst.held (1 - x.arm)
  have hw8 := hst.len
  have ha' := arm_other ha
  unfold putR at h0 ⊢
  generalize hP : placeIx c x.place = A at *
  have hwh : 0 ≤ w.held x.arm → iat w.wher (w.held x.arm).toNat = -1 := by
    rcases ha with h | h <;> rw [h]
    · exact hst.w0
    · exact hst.w1
  generalize hH : w.held x.arm = p at *
  split at h0
  · cases h0
  rename_i h1
  rw [if_neg h1]
  split at h0
  · cases h0
  rename_i h2
  rw [if_neg h2]
  split at h0
  · cases h0
  rename_i h3
  rw [if_neg h3]
  split at h0
  · cases h0
  rename_i h4
  rw [if_neg h4]
  have h4' : (reachM w c x.arm A.toNat).2 = true := by simpa using h4
  obtain ⟨r1, r2, r3⟩ := reachM_spec h4'
  have hp0 : 0 ≤ p := by omega
  have hpw : p.toNat < w.wher.length := by omega
  have d1 := doE_go (w := w) ha r1
  have d2 := doE_leave (w := w.setQ x.arm (reachM w c x.arm A.toNat).1) (c := c) (p := p) (a := A) ha ⟨hp0, hh.2⟩ ⟨hp, hpb⟩ (by simpa using hH) (by simpa using h3) (thereB_of (by simp [ha, r2]) (by simp [ha, r3]))
  refine ⟨hp0, fun k4 => ?_, fun k5 => ?_⟩
  · rw [if_pos k4]
    rw [behind_ok d1, behind_ok d2, behind]
    refine ⟨rfl, by simp [ha], ?_⟩
    simp
    rw [iat_set _ _ _ _ hpw, if_pos rfl]
  · have k4 : ¬ x.kind = 4 := by omega
    rw [if_neg k4] at h0 ⊢
    split at h0
    · cases h0
    rename_i h6
    rw [if_neg h6]
    have h6' : (reachM w c (1 - x.arm) A.toNat).2 = true := by simpa using h6
    obtain ⟨q1, q2, q3⟩ := reachM_spec h6'
    have h7 : w.held (1 - x.arm) < 0 := by omega
    have d3 := doE_go (w := ((w.setQ x.arm (reachM w c x.arm A.toNat).1).setHeld x.arm (-1)).lay p.toNat A) (c := c) (q := w.q x.arm) ha (hst.fit _)
    have d4 := doE_go (w := (((w.setQ x.arm (reachM w c x.arm A.toNat).1).setHeld x.arm (-1)).lay p.toNat A).setQ x.arm (w.q x.arm)) ha' q1
    have d5 := doE_take (w := ((((w.setQ x.arm (reachM w c x.arm A.toNat).1).setHeld x.arm (-1)).lay p.toNat A).setQ x.arm (w.q x.arm)).setQ (1 - x.arm) (reachM w c (1 - x.arm) A.toNat).1) (c := c) (p := p) (a := A) ha' ⟨hp0, hh.2⟩ ⟨hp, hpb⟩ (by simpa [ha] using h7) (by simp; rw [iat_set _ _ _ _ (by omega), if_pos rfl]) (thereB_of (by simp [ha', q2]) (by simp [ha', q3]))
    rw [behind_ok d1, behind_ok d2, behind_ok d3, behind_ok d4, behind_ok d5, behind]
    refine ⟨rfl, by simp [ha'], ?_, ?_, ?_⟩
    · rcases ha with h | h <;> rw [h] <;> rfl
    · rcases ha with h | h <;> rw [h] <;> rfl
    · simp
      refine List.ext_getElem (by simp) fun i h1 h2 => ?_
      rw [List.getElem_set]
      split
      · rename_i e
        subst e
        have := hwh hp0
        unfold iat at this
        simp [h2] at this
        exact this.symm
      · rfl
/-- One statement by itself, in a valid state. -/
theorem playT_one {x : Sb} {kids : List Sb} {w : Ws} {c : Ce} (hst : StOk w c) (hc : RightC c) (hx : SbIn x c) (h7 : ¬ x.kind = 7) :
    playT c [(x, kids)] w [] = if ¬ (plainR x w c).2 = 0 then ((w, []), ((plainR x w c).2, x.at')) else ((behind c w (plainR x w c).1, (plainR x w c).1), (0, 0)) := by
  have h5 := plainR_len (x := x) (w := w) (c := c)
  rw [playT_cons]
  rw [if_neg h7, play1M_ref hst hc hx]
  by_cases h0 : (plainR x w c).2 = 0
  · rw [if_neg (not_not_intro h0), if_neg (not_not_intro h0), if_pos (by simp; omega)]
    simp [playT]
  · rw [if_pos h0, if_pos h0]
/-- A When with one statement. -/
theorem playT_when {x y : Sb} {w : Ws} {c : Ce} (h7 : x.kind = 7) (hy : ¬ y.kind = 7) :
    playT c [(x, [y])] w [] = if iat w.wher (partIx c x.part).toNat = placeIx c x.place then playT c [(y, [])] w [] else ((w, []), (0, 0)) := by
  rw [playT_cons, if_pos h7]
  split
  · have e : playB c [y] w [] = playT c [(y, [])] w [] := by
      unfold playT playB
      rw [if_neg hy]
      cases play1M y w c [] with
      | ok z => simp [playB, playT]
      | error k => rfl
    rw [e]
    split
    · rename_i h0
      rw [← e] at h0 ⊢
      unfold playB at h0 ⊢
      cases hp : play1M y w c [] with
      | ok z => simp [playB, playT]
      | error k => rw [hp] at h0; have := play1M_errp hp; simp at h0; omega
    · rfl
  · rfl
/-- Behind the steps of an expansion. -/
theorem playT_behind {c : Ce} {xs : List Sm} {w : Ws} : behind c w (playT c xs w []).1.2 = (playT c xs w []).1.1 := by
  obtain ⟨k, h1, h2⟩ := exec_playT (c := c) (xs := xs) (w := w) (l := [])
  rw [h1]
  simp only [List.nil_append]
  generalize (playT c xs w []).1.1 = w' at h2
  clear h1
  induction k generalizing w with
  | nil => injection h2
  | cons s k ih =>
    unfold execM at h2
    cases hd : doE s w c with
    | error e => rw [hd] at h2; cases h2
    | ok w1 => rw [hd] at h2; rw [behind_ok hd]; exact ih h2
/-- One program behind another. -/
theorem playT_cat {c : Ce} (hc : RightC c) {xs ys : List Sm} {w : Ws} (hst : StOk w c) (hx : ∀ x ∈ xs, SmIn x c) (hy : ∀ x ∈ ys, SmIn x c) (fx : Few xs) (fy : Few ys) (lx : xs.length ≤ 6) (ly : ys.length ≤ 6) :
    playT c (xs ++ ys) w [] = if (playT c xs w []).2.1 = 0 then ((((playT c ys (playT c xs w []).1.1 []).1.1, (playT c xs w []).1.2 ++ (playT c ys (playT c xs w []).1.1 []).1.2)), (playT c ys (playT c xs w []).1.1 []).2) else playT c xs w [] := by
  rw [playT_app]
  split
  · have h1 := playT_all (xs := xs) (l := []) hst (by simp)
    have h2 := playT_len hc (xs := xs) (l := []) hst (by simp) hx fx
    have h3 := playT_pre hc (p := (playT c xs w []).1.2) (xs := ys) (w := (playT c xs w []).1.1) (l := []) h1.1 hy fy (by simp at h2 ⊢; omega)
    simp only [List.append_nil] at h3
    rw [h3]; rfl
  · rfl
theorem smsN_few (c : Ce) (l : List Wd) : ∀ n, Few (smsN c l n)
  | 0 => fun x hx => by simp [smsN] at hx
  | n + 1 => fun x hx => by
    rcases List.mem_append.1 hx with hx | hx
    · exact smsN_few c l n x hx
    · simp at hx; subst hx
      unfold smOf; simp only
      split
      · have := kidsN_len c l n (min 4 (l.length - 1 - n)); omega
      · simp
theorem smsOf_few (c : Ce) (l : List Wd) : Few (smsOf c l) := smsN_few c l _
theorem smsOf_le (c : Ce) (l : List Wd) : (smsOf c l).length ≤ l.length := by unfold smsOf; rw [smsN_len]; omega
end Go.Proofs
