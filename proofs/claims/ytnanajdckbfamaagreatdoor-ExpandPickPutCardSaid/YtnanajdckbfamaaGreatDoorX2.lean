/- Expansion: walks of the methods that execute a step, and of the reference's steps. -/
import Derived.Test.YtnanajdckbfamaaGreatDoorX1
set_option linter.unusedVariables false
set_option linter.unusedSimpArgs false
set_option maxRecDepth 100000
namespace Go.Proofs
open Go Go.Abs
attribute [local irreducible] wpc aSeq awAny endA guardK condK CallK callT aPlan onlyL takeL aeffK takeE loopG bodyA thenA inBlockA planK roundG assignG bodyI endI YieldK unrollG endP
def Ws.lay (w : Ws) (p : Nat) (x : Int) : Ws := { w with wher := w.wher.set p x }
def Ce.arm (c : Ce) (i : Int) : Ar := if i = 0 then c.a0 else c.a1
theorem ics_set (l : List Int) (p : Nat) (x : Int) : (ics (l.set p x)) = (ics l).set p [.int .i64 x] := by simp [ics, List.map_set]
theorem ics_flat (l : List Int) : (ics l).flatten = l.map (AV.int .i64) := by
  induction l with
  | nil => rfl
  | cons a l ih => rw [ics, List.map_cons, List.flatten_cons, List.map_cons, ← ih]; rfl
theorem ics_ne {l : List Int} {p : Nat} (h : p < l.length) : ics l ≠ [] := fun e => by
  have := congrArg List.length e
  rw [ics_length] at this
  simp at this; subst this; simp at h
theorem frz_ints (m : Nm) (l : List Int) : Frz m (l.map (AV.int .i64)) (.slv m 1 l.length) (.sl 1 (ics l) .unk) :=
  .slv (by simp) (fun e he => by obtain ⟨x, _, rfl⟩ := List.mem_map.1 he; rfl) (by rw [ics_flat, Nat.mul_one, List.take_of_length_le (by simp)]) (by simp)
theorem set_map (l : List Int) (p : Nat) (x : Int) (h : p < l.length) : List.take p (List.map (AV.int .i64) l) ++ AV.int .i64 x :: List.drop (p + 1) (List.map (AV.int .i64) l) = (l.set p x).map (AV.int .i64) := by
  rw [List.map_set, List.set_eq_take_append_cons_drop, if_pos (by simpa using h)]
theorem frzs9 (m : Nm) (w : Ws) (l : List Int) : Frzs m (l.map (AV.int .i64)) (w.cellsV (.slv m 1 l.length)) (w.cellsV (.sl 1 (ics l) .unk)) := by
  repeat' first | exact Frzs.nil | exact frz_ints _ _ | exact Frz.refl _ | refine Frzs.cons ?_ ?_
theorem with_pure (w : Ws) (p : Nat) (x : Int) (hp : p < w.wher.length) (hl : w.wher.length ≤ 1000000) : Pure Tryz.prog 61 [w.av, .int .i64 p, .int .i64 x] (w.lay p x).av := by
  refine fun σ ns => ACalls.frz ?_
  have hne : ics w.wher ≠ [] := ics_ne hp
  have hlen : w.wher.length * 8 ≤ 140737488355328 := by omega
  refine acalls_row fun ns _ hns => ?_; refine acalls_of_wpc Tryz.mixed Tryz.dr61 Tryz.func61 rfl (Tryz.fit61 _ rfl) Tryz.en61 (fun hσ => ?_); simp [Tryz.ntmps61]
  have hs : p + 1 ≤ w.wher.length := hp
  simp [hne, hlen, hp, hs, ics_flat]
  rw [set_map _ _ _ hp]
  have hle : w.wher.length = (w.wher.set p x).length := by simp
  rw [hle]
  refine endA_gen (σ' := σ.up (Nm.mk true ((ns.sub 1).sub 3)) (.var ((w.wher.set p x).map (AV.int .i64)))) (.refl _) (StWk.weak (StWk.up_same ?_ (by simp))) (.inr ⟨_, _, _, rfl, Store.up_same .., Frz.agg (frzs9 _ w _).1 (frzs9 _ w _).2, FrzS.own (hσ _ (by simp [Nm.under]))⟩)
  repeat' first | exact StWk.refl _ | refine StWk.own_up ?_ (hσ _ (by simp [Nm.under]))
/-- The cells of the struct that expands. -/
abbrev wkC (w : Ws) (c : Ce) (o : AV) : List AV := [.int .i64 w.q0.a, .int .i64 w.q0.b, .int .i64 w.q0.c, .int .i64 w.q1.a, .int .i64 w.q1.b, .int .i64 w.q1.c, .int .i64 w.l0, .int .i64 w.l1, .sl 1 (ics w.wher) .unk,
  .int .i64 c.a0.base.1, .int .i64 c.a0.base.2, .int .i64 c.a0.lens.a, .int .i64 c.a0.lens.b, .int .i64 c.a0.lens.c, .int .i64 c.a0.wide, .int .i64 c.a0.low.a, .int .i64 c.a0.low.b, .int .i64 c.a0.low.c, .int .i64 c.a0.high.a, .int .i64 c.a0.high.b, .int .i64 c.a0.high.c,
  .int .i64 c.a1.base.1, .int .i64 c.a1.base.2, .int .i64 c.a1.lens.a, .int .i64 c.a1.lens.b, .int .i64 c.a1.lens.c, .int .i64 c.a1.wide, .int .i64 c.a1.low.a, .int .i64 c.a1.low.b, .int .i64 c.a1.low.c, .int .i64 c.a1.high.a, .int .i64 c.a1.high.b, .int .i64 c.a1.high.c,
  .int .i64 c.h0.a, .int .i64 c.h0.b, .int .i64 c.h0.c, .int .i64 c.h1.a, .int .i64 c.h1.b, .int .i64 c.h1.c,
  .sl 1 (fcs c.fix) .unk, .sl 6 (plcs c.places) .unk, .sl 3 (ptcs c.parts) .unk, .sl 1 (ics c.belt) .unk, .int .i64 c.period,
  .int .i64 c.lim.a, .int .i64 c.lim.b, .int .i64 c.lim.c, .int .i64 c.loaded.a, .int .i64 c.loaded.b, .int .i64 c.loaded.c, .sl 1 (fcs c.zones) .unk, .int .i64 c.gap, .int .i64 c.slow, o]
theorem out_of' {ns : Nm} {σ : Store} {n : Nm} {o : AObj} (hσ : ∀ m, m.under ns = true → σ m = none) (hn : σ n = some o) : n.under ns = false := by
  cases h : n.under ns with
  | false => rfl
  | true => rw [hσ n h] at hn; cases hn
theorem ne_own {ns : Nm} {σ : Store} {n : Nm} {o : AObj} (hσ : ∀ m, m.under ns = true → σ m = none) (hn : σ n = some o) : ∀ x : Nm, x.under ns = true → ¬ n = x := fun x hx e => by
  subst e; rw [hσ n hx] at hn; cases hn
theorem own_ne {ns : Nm} {σ : Store} {n : Nm} {o : AObj} (hσ : ∀ m, m.under ns = true → σ m = none) (hn : σ n = some o) : ∀ x : Nm, x.under ns = true → ¬ x = n := fun x hx e => ne_own hσ hn x hx e.symm
@[simp] theorem under_mk2 {b : Bool} {n : Nm} {i j : Nat} : (Nm.mk b ((n.sub i).sub j)).under n = true := by simp [Nm.under]
/-- A copy that can be stored into. -/
theorem cloneR_calls (l : List Int) (p : Nat) (hp : p < l.length) (hl : l.length ≤ 1000000) (σ : Store) (ns : Nm) : ACalls Tryz.prog 134 [.sl 1 (ics l) .unk] σ ns fun e σ' =>
    ∃ m, m.under ns = true ∧ e = .ret (.slv m 1 l.length) ∧ σ' = σ.up m (.var (l.map (AV.int .i64))) := by
  have hne : ics l ≠ [] := ics_ne hp
  have hlen : l.length * 8 ≤ 140737488355328 := by omega
  refine acalls_row fun ns _ hns => ?_; refine acalls_of_wpc Tryz.mixed Tryz.dr134 Tryz.func134 rfl (Tryz.fit134 _ rfl) Tryz.en134 (fun hσ => ?_); simp [Tryz.ntmps134]
  simp [hne, hlen, ics_flat]
  exact endA_intro (StWk.weak (.refl _)) ⟨_, Nm.under_trans (by simp [Nm.under]) hns, rfl, rfl⟩
theorem frzsW (m : Nm) (w : Ws) (c : Ce) (o : AV) (l : List Int) : Frzs m (l.map (AV.int .i64)) ((wkC w c o).set 8 (.slv m 1 l.length)) (wkC { w with wher := l } c o) := by
  show Frzs m _ ((wkC w c o).set 8 (.slv m 1 l.length)) ((wkC w c o).set 8 (.sl 1 (ics l) .unk))
  exact Frzs.set 8 (frz_ints _ _)
theorem lay_calls (w : Ws) (c : Ce) (o : AV) (p : Nat) (x : Int) (hp : p < w.wher.length) (hl : w.wher.length ≤ 1000000) (σ : Store) (ns n : Nm) (hn : σ n = some (.var (wkC w c o))) :
    ACalls Tryz.prog 117 [.ptr n 0, .int .i64 p, .int .i64 x] σ ns fun e σ' => e = .ret (.tup []) ∧ σ' = σ.up n (.var (wkC (w.lay p x) c o)) := by
  refine ACalls.frz ?_
  refine acalls_val fun ns _ hns => ?_; refine acalls_of_wpc Tryz.mixed Tryz.dr117 Tryz.func117 rfl (Tryz.fit117 _ rfl) Tryz.en117 (fun hσ => ?_); simp [Tryz.ntmps117]
  have hf := out_of' hσ hn
  simp [hn]
  refine CallK.of (cloneR_calls w.wher p hp hl _ _) ?_ (by rintro v σ' ⟨m, _, h, _⟩; cases h)
  rintro v σ' ⟨m, hm, h, rfl⟩
  injection h with h; subst h
  have hm' : m.under ns = true := Nm.under_trans hm (by simp [Nm.under])
  have hnm : ¬ n = m := fun e => by rw [e, hm'] at hf; cases hf
  have hmn : ¬ m = n := fun e => hnm e.symm
  have hs : p + 1 ≤ w.wher.length := hp
  simp [hn, hnm, hmn, hp, hs]
  rw [set_map _ _ _ hp]
  have hle : w.wher.length = (w.wher.set p x).length := by simp
  rw [hle]
  rw [Store.up_comm _ hnm, Store.up_up]
  refine endA_gen (.refl _) (StWk.weak (.refl _)) (.inr ⟨m, (w.wher.set p x).map (AV.int .i64), .tup [], rfl, ?_, .refl _, ?_⟩)
  · simp [hmn]
  · exact FrzS.up (FrzS.own (hσ _ hm')) hnm (frzsW m w c o _)
/-- How a method that checks ends. -/
def DoR (out : Except Int Ws) (c : Ce) (o : AV) (σ : Store) (n : Nm) : AEnd → Store → Prop := fun e σ' => match out with
  | .ok w' => e = .ret (.tup []) ∧ σ' = σ.up n (.var (wkC w' c o))
  | .error k => e = .panic (errv k) ∧ σ' = σ
/-- A method that checks and may turn the state. -/
def DoC (f : FuncId) (args : List AV) (φ : Ws → Ce → Except Int Ws) (pre : Ws → Ce → Prop) : Prop :=
  ∀ (w : Ws) (c : Ce) (o : AV) (σ : Store) (ns n : Nm), pre w c → σ n = some (.var (wkC w c o)) → ACalls Tryz.prog f (.ptr n 0 :: args) σ ns (DoR (φ w c) c o σ n)
/-- .. used. -/
theorem DoC.use {f : FuncId} {args : List AV} {φ : Ws → Ce → Except Int Ws} {pre : Ws → Ce → Prop} (h : DoC f args φ pre) {w : Ws} {c : Ce} {o : AV} {m n : Nm} {dst : Option Tmp} {K : AS → Prop} {Q : AExit → AS → Prop} {s : AS} (hp : pre w c) (hn : s.st n = some (.var (wkC w c o)))
    (h1 : ∀ w', φ w c = .ok w' → K ((s.setSt (s.st.up n (.var (wkC w' c o)))).put dst (.tup []))) (h2 : ∀ k, φ w c = .error k → Q (.panic (errv k)) s.bump) : CallK Tryz.prog f (.ptr n 0 :: args) m dst K Q s := by
  refine CallK.of (h w c o s.st m n hp hn) ?_ ?_
  · intro v σ' hr
    unfold DoR at hr
    split at hr
    · rename_i w' he; obtain ⟨hv, rfl⟩ := hr; injection hv with hv; subst hv; exact h1 w' he
    · cases hr.1
  · intro v σ' hr
    unfold DoR at hr
    split at hr
    · cases hr.1
    · rename_i k he; obtain ⟨hv, rfl⟩ := hr; injection hv with hv; subst hv; exact h2 k he
/-- A method that only checks. -/
def ckE (b : Bool) (k : Int) (w : Ws) : Except Int Ws := if b = true then .ok w else .error k
def Ws.q (w : Ws) (i : Int) : J3 := if i = 0 then w.q0 else w.q1
def Ws.held (w : Ws) (i : Int) : Int := if i = 0 then w.l0 else w.l1
def Sp.to (s : Sp) (i : Int) : J3 := if i = 0 then s.to0 else s.to1
def Ws.setQ (w : Ws) (i : Int) (q : J3) : Ws := if i = 0 then { w with q0 := q } else { w with q1 := q }
def Ws.setHeld (w : Ws) (i : Int) (h : Int) : Ws := if i = 0 then { w with l0 := h } else { w with l1 := h }
theorem up_self {σ : Store} {n : Nm} {o : AObj} (h : σ n = some o) : σ.up n o = σ := by
  funext m; unfold Store.up; split
  · rename_i e; rw [e, h]
  · rfl
section
variable {out : Except Int Ws} {w w' : Ws} {c : Ce} {o : AV} {σ u : Store} {ns n : Nm} {k : Int}
theorem doc_ok (h : out = .ok w') (hw : StWk u (σ.up n (.var (wkC w' c o)))) : endA (some (.tup [])) u [] σ ns (DoR out c o σ n) := by
  subst h; exact endA_intro (StWk.weak hw) ⟨rfl, rfl⟩
theorem doc_same (h : out = .ok w) (hn : σ n = some (.var (wkC w c o))) (hw : restoreS ns [] σ u = σ) : endA (some (.tup [])) u [] σ ns (DoR out c o σ n) := by
  subst h; exact endA_same ⟨rfl, (up_self hn).symm⟩ hw
theorem doc_err (h : out = .error k) (hw : restoreS ns [] σ u = σ) : endP (errv k) u [] σ ns (DoR out c o σ n) := by
  subst h; exact endP_same ⟨rfl, rfl⟩ hw
end
theorem ckE_ok {b : Bool} {k : Int} {w : Ws} (h : b = true) : ckE b k w = .ok w := by simp [ckE, h]
theorem ckE_inv {b : Bool} {k : Int} {w w' : Ws} (h : ckE b k w = .ok w') : b = true ∧ w' = w := by
  unfold ckE at h; split at h
  · rename_i hb; injection h with h; exact ⟨hb, h.symm⟩
  · cases h
theorem ckE_inv' {b : Bool} {k j : Int} {w : Ws} (h : ckE b k w = .error j) : b = false ∧ j = k := by
  unfold ckE at h; split at h
  · cases h
  · rename_i hb; injection h with h; exact ⟨by simpa using hb, h.symm⟩
theorem ckE_err {b : Bool} {k : Int} {w : Ws} (h : b = false) : ckE b k w = .error k := by simp [ckE, h]
theorem fits_do (i : Int) (hi : i = 0 ∨ i = 1) (q : J3) : DoC 114 [.int .i64 i, q.av] (fun w c => ckE (fits (c.arm i) q) 121 w) (fun _ _ => True) := by
  intro w c o σ ns n _ hn
  refine acalls_val fun ns _ hns => ?_; refine acalls_of_wpc Tryz.mixed Tryz.dr114 Tryz.func114 rfl (Tryz.fit114 _ rfl) Tryz.en114 (fun hσ => ?_); simp [Tryz.ntmps114]
  have hnn := ne_own hσ hn
  have hn2 := own_ne hσ hn
  rcases hi with rfl | rfl <;> simp [hn, hnn, hn2]
  · first | refine Pure.use_le (inLimits_pure c.a0 q) ?_ | refine callT_le (inLimits_pure c.a0 q) ?_
    simp
    refine check_use (by decide) (fun h => ?_) (fun h => ?_) <;> simp
    · exact doc_same (ckE_ok h) hn (by simp)
    · exact doc_err (ckE_err h) (by simp)
  · first | refine Pure.use_le (inLimits_pure c.a1 q) ?_ | refine callT_le (inLimits_pure c.a1 q) ?_
    simp
    refine check_use (by decide) (fun h => ?_) (fun h => ?_) <;> simp
    · exact doc_same (ckE_ok h) hn (by simp)
    · exact doc_err (ckE_err h) (by simp)
theorem DoC.useCk {f : FuncId} {args : List AV} {φ : Ws → Ce → Except Int Ws} {pre : Ws → Ce → Prop} (h : DoC f args φ pre) {w : Ws} {c : Ce} {o : AV} {b : Bool} {k : Int} (hφ : φ w c = ckE b k w) {m n : Nm} {dst : Option Tmp} {K : AS → Prop} {Q : AExit → AS → Prop} {s : AS} (hp : pre w c) (hn : s.st n = some (.var (wkC w c o)))
    (h1 : b = true → K (s.put dst (.tup []))) (h2 : b = false → Q (.panic (errv k)) s.bump) : CallK Tryz.prog f (.ptr n 0 :: args) m dst K Q s := by
  refine h.use hp hn (fun w' hw => ?_) (fun j hj => ?_)
  · rw [hφ] at hw
    obtain ⟨hb, rfl⟩ := ckE_inv hw
    rw [up_self hn]
    exact h1 hb
  · rw [hφ] at hj
    obtain ⟨hb, rfl⟩ := ckE_inv' hj
    exact h2 hb
@[simp] theorem Ws.q_0 (w : Ws) : w.q 0 = w.q0 := rfl
@[simp] theorem Ws.q_1 (w : Ws) : w.q 1 = w.q1 := rfl
@[simp] theorem Ws.held_0 (w : Ws) : w.held 0 = w.l0 := rfl
@[simp] theorem Ws.held_1 (w : Ws) : w.held 1 = w.l1 := rfl
@[simp] theorem Sp.to_0 (s : Sp) : s.to 0 = s.to0 := rfl
@[simp] theorem Sp.to_1 (s : Sp) : s.to 1 = s.to1 := rfl
@[simp] theorem Ce.arm_0 (c : Ce) : c.arm 0 = c.a0 := rfl
@[simp] theorem Ce.arm_1 (c : Ce) : c.arm 1 = c.a1 := rfl
@[simp] theorem Ws.setQ_0 (w : Ws) (q : J3) : w.setQ 0 q = { w with q0 := q } := rfl
@[simp] theorem Ws.setQ_1 (w : Ws) (q : J3) : w.setQ 1 q = { w with q1 := q } := rfl
@[simp] theorem Ws.setHeld_0 (w : Ws) (h : Int) : w.setHeld 0 h = { w with l0 := h } := rfl
@[simp] theorem Ws.setHeld_1 (w : Ws) (h : Int) : w.setHeld 1 h = { w with l1 := h } := rfl
def thereB (w : Ws) (c : Ce) (i : Int) (at' : Nat) : Bool := decide (pC (c.arm i) (w.q i) = (plat c.places at').pos) && decide (dC (w.q i) = (plat c.places at').dir)
theorem v2_beq (a b : V2) : (a.1 == b.1 && a.2 == b.2) = decide (a = b) := by
  obtain ⟨x, y⟩ := a; obtain ⟨x', y'⟩ := b
  rw [Bool.eq_iff_iff]; simp
theorem there_do (i : Int) (hi : i = 0 ∨ i = 1) (at' : Nat) : DoC 116 [.int .i64 i, .int .i64 at'] (fun w c => ckE (thereB w c i at') 134 w) (fun _ c => at' < c.places.length ∧ RightP c.a0 ∧ RightP c.a1) := by
  rintro w c o σ ns n ⟨ha, hr0, hr1⟩ hn
  have hg := plcs_get ha
  refine acalls_val fun ns _ hns => ?_; refine acalls_of_wpc Tryz.mixed Tryz.dr116 Tryz.func116 rfl (Tryz.fit116 _ rfl) Tryz.en116 (fun hσ => ?_); simp [Tryz.ntmps116]
  have hnn := ne_own hσ hn
  have hn2 := own_ne hσ hn
  rcases hi with rfl | rfl <;> simp [hn, hnn, hn2, hg]
  · first | refine Pure.use_le (jointPoints_pure c.a0 w.q0 hr0) ?_ | refine callT_le (jointPoints_pure c.a0 w.q0 hr0) ?_
    simp [hn, hnn, hn2]
    first | refine Pure.use_le (linkDirections_pure c.a0 w.q0) ?_ | refine callT_le (linkDirections_pure c.a0 w.q0) ?_
    simp [hn, hnn, hn2, v2_beq]
    have e1 : thereB w c 0 at' = (decide (pC c.a0 w.q0 = (plat c.places at').pos) && decide (dC w.q0 = (plat c.places at').dir)) := rfl
    refine guardK_cases (fun h => ?_) (fun h => ?_) <;> simp [h, hn, hnn, hn2, dr_beq]
    · refine check_use (by decide) (fun g => ?_) (fun g => ?_) <;> simp
      · exact doc_same (ckE_ok (by rw [e1]; simp_all)) hn (by simp)
      · exact doc_err (ckE_err (by rw [e1]; simp_all)) (by simp)
    · refine check_use (by decide) (fun g => ?_) (fun g => ?_) <;> simp
      · cases g
      · exact doc_err (ckE_err (by rw [e1]; simp_all)) (by simp)
  · first | refine Pure.use_le (jointPoints_pure c.a1 w.q1 hr1) ?_ | refine callT_le (jointPoints_pure c.a1 w.q1 hr1) ?_
    simp [hn, hnn, hn2]
    first | refine Pure.use_le (linkDirections_pure c.a1 w.q1) ?_ | refine callT_le (linkDirections_pure c.a1 w.q1) ?_
    simp [hn, hnn, hn2, v2_beq]
    have e1 : thereB w c 1 at' = (decide (pC c.a1 w.q1 = (plat c.places at').pos) && decide (dC w.q1 = (plat c.places at').dir)) := rfl
    refine guardK_cases (fun h => ?_) (fun h => ?_) <;> simp [h, hn, hnn, hn2, dr_beq]
    · refine check_use (by decide) (fun g => ?_) (fun g => ?_) <;> simp
      · exact doc_same (ckE_ok (by rw [e1]; simp_all)) hn (by simp)
      · exact doc_err (ckE_err (by rw [e1]; simp_all)) (by simp)
    · refine check_use (by decide) (fun g => ?_) (fun g => ?_) <;> simp
      · cases g
      · exact doc_err (ckE_err (by rw [e1]; simp_all)) (by simp)
def knownB (s : Sp) (c : Ce) : Bool := decide ((0 ≤ s.part ∧ s.part < c.parts.length) ∧ 0 ≤ s.place ∧ s.place < c.places.length)
theorem known_do (s : Sp) : DoC 115 [s.av] (fun w c => ckE (knownB s c) 1 w) (fun _ c => True) := by
  rintro w c o σ ns n _ hn
  refine acalls_val fun ns _ hns => ?_; refine acalls_of_wpc Tryz.mixed Tryz.dr115 Tryz.func115 rfl (Tryz.fit115 _ rfl) Tryz.en115 (fun hσ => ?_); simp [Tryz.ntmps115]
  have hnn := ne_own hσ hn
  have hn2 := own_ne hσ hn
  simp [hn, hnn]
  first | refine Pure.use_le (within_pure s.part c.parts.length) ?_ | refine callT_le (within_pure s.part c.parts.length) ?_
  simp
  refine guardK_cases (fun h => ?_) (fun h => ?_) <;> simp [h, hn, hnn]
  · first | refine Pure.use_le (within_pure s.place c.places.length) ?_ | refine callT_le (within_pure s.place c.places.length) ?_
    simp
    refine check_use (by decide) (fun g => ?_) (fun g => ?_) <;> simp
    · exact doc_same (ckE_ok (by unfold knownB; simp at h g ⊢; omega)) hn (by simp)
    · exact doc_err (ckE_err (by unfold knownB; simp at h g ⊢; omega)) (by simp)
  · refine check_use (by decide) (fun g => ?_) (fun g => ?_) <;> simp
    · cases g
    · exact doc_err (ckE_err (by unfold knownB; simp at h ⊢; omega)) (by simp)
def doGo (s : Sp) (w : Ws) (c : Ce) : Except Int Ws := if fits (c.arm s.arm) (s.to s.arm) = true then .ok (w.setQ s.arm (s.to s.arm)) else .error 121
theorem goes_do (s : Sp) (hi : s.arm = 0 ∨ s.arm = 1) : DoC 89 [s.av] (doGo s) (fun _ _ => True) := by
  rintro w c o σ ns n _ hn
  refine acalls_val fun ns _ hns => ?_; refine acalls_of_wpc Tryz.mixed Tryz.dr89 Tryz.func89 rfl (Tryz.fit89 _ rfl) Tryz.en89 (fun hσ => ?_); simp [Tryz.ntmps89]
  have hnn := ne_own hσ hn
  have hn2 := own_ne hσ hn
  rcases hi with hi | hi <;> simp [hn, hnn, hn2, hi]
  · refine (fits_do 0 (.inl rfl) s.to0).useCk (w := w) (c := c) (o := o) rfl trivial (by simp [hn, hnn, hn2]) (fun hf => ?_) (fun hf => ?_)
    · simp [hn, hnn, hn2, hi]
      exact doc_ok (by unfold doGo; rw [hi]; exact if_pos hf) (StWk.turn hσ (by simp [hnn, hn2, hn]) (fun m m1 m2 => by repeat' first | rfl | rw [Store.up_get, if_neg m2] | rw [up_other (by simp [Nm.under]) m1]))
    · simp
      exact doc_err (by unfold doGo; rw [hi]; exact if_neg (by show ¬ fits c.a0 s.to0 = true; rw [show fits c.a0 s.to0 = false from hf]; simp)) (by simp)
  · refine (fits_do 1 (.inr rfl) s.to1).useCk (w := w) (c := c) (o := o) rfl trivial (by simp [hn, hnn, hn2]) (fun hf => ?_) (fun hf => ?_)
    · simp [hn, hnn, hn2, hi]
      exact doc_ok (by unfold doGo; rw [hi]; exact if_pos hf) (StWk.turn hσ (by simp [hnn, hn2, hn]) (fun m m1 m2 => by repeat' first | rfl | rw [Store.up_get, if_neg m2] | rw [up_other (by simp [Nm.under]) m1]))
    · simp
      exact doc_err (by unfold doGo; rw [hi]; exact if_neg (by show ¬ fits c.a1 s.to1 = true; rw [show fits c.a1 s.to1 = false from hf]; simp)) (by simp)
def doBoth (s : Sp) (w : Ws) (c : Ce) : Except Int Ws := if fits c.a0 s.to0 = true ∧ fits c.a1 s.to1 = true then .ok { w with q0 := s.to0, q1 := s.to1 } else .error 121
theorem both_do (s : Sp) : DoC 90 [s.av] (doBoth s) (fun _ _ => True) := by
  rintro w c o σ ns n _ hn
  refine acalls_val fun ns _ hns => ?_; refine acalls_of_wpc Tryz.mixed Tryz.dr90 Tryz.func90 rfl (Tryz.fit90 _ rfl) Tryz.en90 (fun hσ => ?_); simp [Tryz.ntmps90]
  have hnn := ne_own hσ hn
  have hn2 := own_ne hσ hn
  refine wpc_unroll 2 (fun k => ?_)
  simp
  refine (fits_do 0 (.inl rfl) s.to0).useCk (w := w) (c := c) (o := o) rfl trivial (by simp [hn, hnn, hn2]) (fun hf => ?_) (fun hf => ?_)
  · simp
    refine unroll_next (fun k1 => ?_)
    simp
    refine (fits_do 1 (.inr rfl) s.to1).useCk (w := w) (c := c) (o := o) rfl trivial (by simp [hn, hnn, hn2]) (fun gf => ?_) (fun gf => ?_)
    · simp
      refine unroll_next (fun k2 => ?_)
      simp [hn, hnn, hn2]
      exact doc_ok (if_pos ⟨hf, gf⟩) (StWk.turn hσ (by simp [hnn, hn2, hn]) (fun m m1 m2 => by repeat' first | rfl | rw [Store.up_get, if_neg m2] | rw [up_other (by simp [Nm.under]) m1]))
    · simp
      exact doc_err (if_neg (fun hh => by rw [show fits c.a1 s.to1 = false from gf] at hh; simp at hh)) (by simp)
  · simp
    exact doc_err (if_neg (fun hh => by rw [show fits c.a0 s.to0 = false from hf] at hh; simp at hh)) (by simp)
def doWait (s : Sp) (w : Ws) (c : Ce) : Except Int Ws := ckE (decide (0 ≤ s.n ∧ s.n ≤ 2000)) 1 w
theorem wait_do (s : Sp) : DoC 93 [s.av] (doWait s) (fun _ _ => True) := by
  rintro w c o σ ns n _ hn
  refine acalls_val fun ns _ hns => ?_; refine acalls_of_wpc Tryz.mixed Tryz.dr93 Tryz.func93 rfl (Tryz.fit93 _ rfl) Tryz.en93 (fun hσ => ?_); simp [Tryz.ntmps93]
  have hnn := ne_own hσ hn
  have hn2 := own_ne hσ hn
  refine guardK_cases (fun h => ?_) (fun h => ?_) <;> simp [h]
  · refine check_use (by decide) (fun g => ?_) (fun g => ?_) <;> simp
    · exact doc_same (ckE_ok (by simp at h g ⊢; omega)) hn (by simp)
    · exact doc_err (ckE_err (by simp at h g ⊢; omega)) (by simp)
  · refine check_use (by decide) (fun g => ?_) (fun g => ?_) <;> simp
    · cases g
    · exact doc_err (ckE_err (by simp at h ⊢; omega)) (by simp)
def doTake (s : Sp) (w : Ws) (c : Ce) : Except Int Ws :=
  if knownB s c = false then .error 1 else if ¬ w.held s.arm < 0 then .error 130 else if ¬ iat w.wher s.part.toNat = s.place then .error 132 else
  if thereB w c s.arm s.place.toNat = false then .error 134 else .ok ((w.setHeld s.arm s.part).lay s.part.toNat (-1))
def doLeave (s : Sp) (w : Ws) (c : Ce) : Except Int Ws :=
  if knownB s c = false then .error 1 else if ¬ w.held s.arm = s.part then .error 131 else if s.place ∈ w.wher then .error 133 else
  if thereB w c s.arm s.place.toNat = false then .error 134 else .ok ((w.setHeld s.arm (-1)).lay s.part.toNat s.place)
/-- A state that fits the cell. -/
structure WOk (w : Ws) (c : Ce) : Prop where
  len : w.wher.length = c.parts.length
  parts : c.parts.length ≤ 1000000
  r0 : RightP c.a0
  r1 : RightP c.a1
theorem knownB_iff {s : Sp} {c : Ce} : knownB s c = true ↔ (0 ≤ s.part ∧ s.part < c.parts.length) ∧ 0 ≤ s.place ∧ s.place < c.places.length := by simp [knownB]
theorem take_do (s : Sp) (hi : s.arm = 0 ∨ s.arm = 1) : DoC 91 [s.av] (doTake s) WOk := by
  rintro w c o σ ns n hw hn
  refine acalls_val fun ns _ hns => ?_; refine acalls_of_wpc Tryz.mixed Tryz.dr91 Tryz.func91 rfl (Tryz.fit91 _ rfl) Tryz.en91 (fun hσ => ?_); simp [Tryz.ntmps91]
  have hnn := ne_own hσ hn
  have hn2 := own_ne hσ hn
  refine (known_do s).useCk (w := w) (c := c) (o := o) rfl trivial (by simp [hn, hnn, hn2]) (fun hk => ?_) (fun hf => ?_)
  rotate_left
  · simp
    exact doc_err (if_pos hf) (by simp)
  have hk' := knownB_iff.1 hk
  have hlen := hw.len
  have hpl := hw.parts
  obtain ⟨p, hp⟩ := Int.eq_ofNat_of_zero_le hk'.1.1
  obtain ⟨q, hq⟩ := Int.eq_ofNat_of_zero_le hk'.2.1
  have hpw : p < w.wher.length := by omega
  have hg := ics_get hpw
  have tp : s.part.toNat = p := by omega
  have tq : s.place.toNat = q := by omega
  have nk : ¬ knownB s c = false := by simp [hk]
  rcases hi with hi | hi <;> simp [hn, hnn, hn2, hi]
  · refine check_use (by decide) (fun h1 => ?_) (fun h1 => ?_) <;> simp
    rotate_left
    · exact doc_err (by unfold doTake; rw [if_neg nk, hi]; exact if_pos (by simp at h1 ⊢; omega)) (by simp)
    have h1' : ¬ ¬ w.held 0 < 0 := by simp at h1 ⊢; omega
    simp [hn, hnn, hn2, hp, hg]
    refine check_use (by decide) (fun h2 => ?_) (fun h2 => ?_) <;> simp
    rotate_left
    · exact doc_err (by unfold doTake; rw [if_neg nk, hi, if_neg h1', tp]; exact if_pos (by simp at h2 ⊢; omega)) (by simp)
    have h2' : ¬ ¬ iat w.wher p = s.place := by simp at h2 ⊢; omega
    simp [hn, hnn, hn2, hi, hq]
    refine (there_do 0 (.inl rfl) q).useCk (w := w) (c := c) (o := o) rfl ⟨by omega, hw.r0, hw.r1⟩ (by simp [hn, hnn, hn2]) (fun hth => ?_) (fun hf => ?_)
    rotate_left
    · simp
      exact doc_err (by unfold doTake; rw [if_neg nk, hi, if_neg h1', tp, if_neg h2', tq]; exact if_pos hf) (by simp)
    simp [hn, hnn, hn2, hi, hp]
    refine CallK.use (lay_calls { w with l0 := (p : Int) } c o p (-1) hpw (by simp; omega) _ _ n (by simp)) ?_
    simp [hn, hnn, hn2]
    exact doc_ok (by unfold doTake; rw [if_neg nk, hi, if_neg h1', tp, if_neg h2', tq, if_neg (by rw [hth]; simp), hp]) (StWk.turn hσ (by simp [hnn, hn2, hn]) (fun m m1 m2 => by repeat' first | rfl | rw [Store.up_get, if_neg m2] | rw [up_other (by simp [Nm.under]) m1]))
  · refine check_use (by decide) (fun h1 => ?_) (fun h1 => ?_) <;> simp
    rotate_left
    · exact doc_err (by unfold doTake; rw [if_neg nk, hi]; exact if_pos (by simp at h1 ⊢; omega)) (by simp)
    have h1' : ¬ ¬ w.held 1 < 0 := by simp at h1 ⊢; omega
    simp [hn, hnn, hn2, hp, hg]
    refine check_use (by decide) (fun h2 => ?_) (fun h2 => ?_) <;> simp
    rotate_left
    · exact doc_err (by unfold doTake; rw [if_neg nk, hi, if_neg h1', tp]; exact if_pos (by simp at h2 ⊢; omega)) (by simp)
    have h2' : ¬ ¬ iat w.wher p = s.place := by simp at h2 ⊢; omega
    simp [hn, hnn, hn2, hi, hq]
    refine (there_do 1 (.inr rfl) q).useCk (w := w) (c := c) (o := o) rfl ⟨by omega, hw.r0, hw.r1⟩ (by simp [hn, hnn, hn2]) (fun hth => ?_) (fun hf => ?_)
    rotate_left
    · simp
      exact doc_err (by unfold doTake; rw [if_neg nk, hi, if_neg h1', tp, if_neg h2', tq]; exact if_pos hf) (by simp)
    simp [hn, hnn, hn2, hi, hp]
    refine CallK.use (lay_calls { w with l1 := (p : Int) } c o p (-1) hpw (by simp; omega) _ _ n (by simp)) ?_
    simp [hn, hnn, hn2]
    exact doc_ok (by unfold doTake; rw [if_neg nk, hi, if_neg h1', tp, if_neg h2', tq, if_neg (by rw [hth]; simp), hp]) (StWk.turn hσ (by simp [hnn, hn2, hn]) (fun m m1 m2 => by repeat' first | rfl | rw [Store.up_get, if_neg m2] | rw [up_other (by simp [Nm.under]) m1]))
theorem leave_do (s : Sp) (hi : s.arm = 0 ∨ s.arm = 1) : DoC 92 [s.av] (doLeave s) WOk := by
  rintro w c o σ ns n hw hn
  refine acalls_val fun ns _ hns => ?_; refine acalls_of_wpc Tryz.mixed Tryz.dr92 Tryz.func92 rfl (Tryz.fit92 _ rfl) Tryz.en92 (fun hσ => ?_); simp [Tryz.ntmps92]
  have hnn := ne_own hσ hn
  have hn2 := own_ne hσ hn
  refine (known_do s).useCk (w := w) (c := c) (o := o) rfl trivial (by simp [hn, hnn, hn2]) (fun hk => ?_) (fun hf => ?_)
  rotate_left
  · simp
    exact doc_err (if_pos hf) (by simp)
  have hk' := knownB_iff.1 hk
  have hlen := hw.len
  have hpl := hw.parts
  obtain ⟨p, hp⟩ := Int.eq_ofNat_of_zero_le hk'.1.1
  obtain ⟨q, hq⟩ := Int.eq_ofNat_of_zero_le hk'.2.1
  have hpw : p < w.wher.length := by omega
  have hg := ics_get hpw
  have tp : s.part.toNat = p := by omega
  have tq : s.place.toNat = q := by omega
  have nk : ¬ knownB s c = false := by simp [hk]
  rcases hi with hi | hi <;> simp [hn, hnn, hn2, hi, hp]
  · refine check_use (by decide) (fun h1 => ?_) (fun h1 => ?_) <;> simp
    rotate_left
    · exact doc_err (by unfold doLeave; rw [if_neg nk, hi]; exact if_pos (by simp at h1 ⊢; omega)) (by simp)
    have h1' : ¬ ¬ w.held 0 = s.part := by simp at h1 ⊢; omega
    simp [hn, hnn, hn2, hq]
    first | refine Pure.use_le (index_pure w.wher (q : Int) (by omega)) ?_ | refine callT_le (index_pure w.wher (q : Int) (by omega)) ?_
    simp [hn, hnn, hn2]
    refine check_use (by decide) (fun h2 => ?_) (fun h2 => ?_) <;> simp
    rotate_left
    · exact doc_err (by unfold doLeave; rw [if_neg nk, hi, if_neg h1', hq]; exact if_pos (by simpa using h2)) (by simp)
    have h2' : ¬ s.place ∈ w.wher := by rw [hq]; simpa using h2
    simp [hn, hnn, hn2, hi, hq]
    refine (there_do 0 (.inl rfl) q).useCk (w := w) (c := c) (o := o) rfl ⟨by omega, hw.r0, hw.r1⟩ (by simp [hn, hnn, hn2]) (fun hth => ?_) (fun hf => ?_)
    rotate_left
    · simp
      exact doc_err (by unfold doLeave; rw [if_neg nk, hi, if_neg h1', if_neg h2', tq]; exact if_pos hf) (by simp)
    simp [hn, hnn, hn2, hi, hp, hq]
    refine CallK.use (lay_calls { w with l0 := -1 } c o p q hpw (by simp; omega) _ _ n (by simp)) ?_
    simp [hn, hnn, hn2]
    exact doc_ok (by unfold doLeave; rw [if_neg nk, hi, if_neg h1', if_neg h2', tq, if_neg (by rw [hth]; simp), tp, hq]) (StWk.turn hσ (by simp [hnn, hn2, hn]) (fun m m1 m2 => by repeat' first | rfl | rw [Store.up_get, if_neg m2] | rw [up_other (by simp [Nm.under]) m1]))
  · refine check_use (by decide) (fun h1 => ?_) (fun h1 => ?_) <;> simp
    rotate_left
    · exact doc_err (by unfold doLeave; rw [if_neg nk, hi]; exact if_pos (by simp at h1 ⊢; omega)) (by simp)
    have h1' : ¬ ¬ w.held 1 = s.part := by simp at h1 ⊢; omega
    simp [hn, hnn, hn2, hq]
    first | refine Pure.use_le (index_pure w.wher (q : Int) (by omega)) ?_ | refine callT_le (index_pure w.wher (q : Int) (by omega)) ?_
    simp [hn, hnn, hn2]
    refine check_use (by decide) (fun h2 => ?_) (fun h2 => ?_) <;> simp
    rotate_left
    · exact doc_err (by unfold doLeave; rw [if_neg nk, hi, if_neg h1', hq]; exact if_pos (by simpa using h2)) (by simp)
    have h2' : ¬ s.place ∈ w.wher := by rw [hq]; simpa using h2
    simp [hn, hnn, hn2, hi, hq]
    refine (there_do 1 (.inr rfl) q).useCk (w := w) (c := c) (o := o) rfl ⟨by omega, hw.r0, hw.r1⟩ (by simp [hn, hnn, hn2]) (fun hth => ?_) (fun hf => ?_)
    rotate_left
    · simp
      exact doc_err (by unfold doLeave; rw [if_neg nk, hi, if_neg h1', if_neg h2', tq]; exact if_pos hf) (by simp)
    simp [hn, hnn, hn2, hi, hp, hq]
    refine CallK.use (lay_calls { w with l1 := -1 } c o p q hpw (by simp; omega) _ _ n (by simp)) ?_
    simp [hn, hnn, hn2]
    exact doc_ok (by unfold doLeave; rw [if_neg nk, hi, if_neg h1', if_neg h2', tq, if_neg (by rw [hth]; simp), tp, hq]) (StWk.turn hσ (by simp [hnn, hn2, hn]) (fun m m1 m2 => by repeat' first | rfl | rw [Store.up_get, if_neg m2] | rw [up_other (by simp [Nm.under]) m1]))
end Go.Proofs
