/- The walk on abstract states is sound. -/
import Derived.Test.YtfoopknikckojaaA9
set_option linter.unusedVariables false
set_option linter.unusedSimpArgs false
namespace Go.Abs

/-- The fence that lets all in; r: the round's number, if it is one. -/
def FW (r : Option Nat) : Fence := { fn := fun _ => True, depth := none, alive := false, round := r }
theorem FW_none : FW none = Fence.wide := rfl
theorem callsIn_FW {r : Option Nat} {n : Nat} {P : Program} {f : FuncId} {args : Array Value} {w : World} {R : Ending → World → Prop} (h : Calls P f args w R) : CallsIn (FW r) n P f args w R :=
  have h' : CallsIn Fence.wide n P f args w R := callsIn_wide.2 h
  match r with
  | none => h'
  | some _ => h'

section
variable {P : Program} {ρ : Names} {M : Mem}

def resultAt (a : Act) (r : ResultVar) : Sem Value := match r with
  | .tmp t => pure (a.tmps.getD t undef)
  | .cell c t => do loadVar t (← asAddr (a.tmps.getD c undef))

@[simp] theorem AS.put_ns (s : AS) (d : Option Tmp) (v : AV) : (s.put d v).ns = s.ns := by cases d <;> rfl
@[simp] theorem AS.put_c (s : AS) (d : Option Tmp) (v : AV) : (s.put d v).c = s.c := by cases d <;> rfl
@[simp] theorem AS.put_st (s : AS) (d : Option Tmp) (v : AV) : (s.put d v).st = s.st := by cases d <;> rfl

theorem aeff_defer {n : Nm} {e : Operand → AV} {σ : Store} {c : Call} : aeff P n e σ (.defer c) = .bad := by simp [aeff, aquiet]

theorem astep_sound {r : Option Nat} {n : Nm} {o : Oper} {K : AS → Prop} {Q : AExit → AS → Prop} {s : AS} {Kc : Act → World → Prop} {Qc : Exit → Act → World → Prop} {a : Act} {w : World} (hh : HoldsT ρ M s a w)
    (hn : ∀ m, m.under n = true → ρ m = none) (h : astep P n o K Q s)
    (hK : ∀ s' ρ' M' a' w', K s' → HoldsT ρ' M' s' a' w' → s'.ns = s.ns → s'.c = s.c → Evo (fun m => m.under n = true) ρ M s.st w ρ' M' s'.st w' → Kc a' w')
    (hQ : ∀ v x s' ρ' M' a' w', Q (.panic v) s' → VR ρ' M' v x → HoldsT ρ' M' s' a' w' → s'.ns = s.ns → s'.c = s.c + 1 → Evo (fun m => m.under n = true) ρ M s.st w ρ' M' s'.st w' →
      Qc (.panic [{ v := x, recovered := false }]) a' w') : o.wpIn (FW r) 0 P a w Kc Qc := by
  refine ⟨fun _ _ => trivial, ?_⟩
  have hsnd := aeff_sound (P := P) (o := o) (n := n) (NS := fun m => m.under n = true) hh.rel hh.ev (hn n (by simp)) (by simp)
  have hnd : ∀ c, aeff P n s.ev s.st o.op ≠ .bad → o.op ≠ .defer c := fun c hb e => hb (by rw [e]; exact aeff_defer)
  unfold astep at h
  generalize haeff : aeff P n s.ev s.st o.op = ae at h hsnd hnd
  cases ae with
  | bad => exact h.elim
  | val v σ =>
    obtain ⟨x, w', ρ', M', hrun, hv, hr', hev⟩ := hsnd
    rw [Oper.semAt_eq _ _ _ (fun c => hnd c (by simp)), hrun]
    show Kc (a.put o.dst x) w'
    exact hK _ ρ' M' _ w' h ((hh.mono hev.grows hr').put o.dst hv) (by simp [AS.setSt]) (by simp [AS.setSt]) (by simpa [AS.setSt] using hev)
  | skip σ =>
    obtain ⟨w', ρ', M', hrun, hr', hev⟩ := hsnd
    rw [Oper.semAt_eq _ _ _ (fun c => hnd c (by simp)), hrun]
    show Kc (a.put o.dst undef) w'
    exact hK _ ρ' M' _ w' h ((hh.mono hev.grows hr').put o.dst (.tup rfl (by simp))) (by simp [AS.setSt]) (by simp [AS.setSt]) (by simpa [AS.setSt] using hev)
  | call f args =>
    obtain ⟨xs, hrun, hvs⟩ := hsnd
    obtain ⟨hen, hcall⟩ := h
    rw [Oper.semAt_eq _ _ _ (fun c => hnd c (by simp)), hrun hen]
    refine ⟨(fun hd => by cases hd), callsIn_FW ((hcall ρ M w xs hh.rel hn hvs).mono fun e w' ⟨ae, σ', ρ', M', he, hk, hr', hev⟩ => ?_)⟩
    cases he with
    | ret hv => exact hK _ ρ' M' _ w' hk ((hh.mono hev.grows hr').put o.dst hv) (by simp [AS.setSt]) (by simp [AS.setSt]) (by simpa [AS.setSt] using hev)
    | panic hv =>
      have h1 := hh.mono hev.grows hr'
      exact hQ _ _ _ ρ' M' _ w' hk hv ⟨h1.tmps, h1.rel, h1.dfs⟩ rfl rfl hev

theorem awanted_sound {ops : Array Oper} {s : AS} {o : Oper} {a : Act} {w : World} {b : Bool} (hh : HoldsT ρ M s a w) (h : awanted ops s o = some b) : Region.wanted o (yielded ops a.tmps) = b := by
  unfold awanted at h
  unfold Region.wanted yielded
  split at h
  · rename_i hg; injection h with h; subst h; simp [hg]
  · rename_i j want hg
    simp only [hg]
    split at h
    · rename_i hd; injection h with h; subst h; simp [hd]
    · rename_i d hd
      split at h
      · rename_i b' ht
        injection h with h; subst h
        obtain ⟨x, hx, hv⟩ := hh.tmps.ex ht
        have hx' : a.tmps[d]? = some x := by simpa using hx
        cases hv
        simp [hd, hx']
      · rename_i ht
        injection h with h; subst h
        obtain ⟨x, hx, hv⟩ := hh.tmps.ex ht
        have hx' : a.tmps[d]? = some x := by simpa using hx
        obtain ⟨xs, rfl, _⟩ := VR.tup_iff.1 hv
        simp [hd, hx']
      · cases h

theorem aOp_sound {r : Option Nat} {ops : Array Oper} {i : Nat} {K : AS → Prop} {Q : AExit → AS → Prop} {s : AS} {Kc : Act → World → Prop} {Qc : Exit → Act → World → Prop} {a : Act} {w : World} (hh : HoldsT ρ M s a w)
    (hn : ∀ m, m.under ((s.ns.sub s.c).sub i) = true → ρ m = none) (h : aOp P ops Q i K s)
    (hK : ∀ s' ρ' M' a' w', K s' → HoldsT ρ' M' s' a' w' → s'.ns = s.ns → s'.c = s.c → Evo (fun m => m.under ((s.ns.sub s.c).sub i) = true) ρ M s.st w ρ' M' s'.st w' → Kc a' w')
    (hQ : ∀ v x s' ρ' M' a' w', Q (.panic v) s' → VR ρ' M' v x → HoldsT ρ' M' s' a' w' → s'.ns = s.ns → s'.c = s.c + 1 → Evo (fun m => m.under ((s.ns.sub s.c).sub i) = true) ρ M s.st w ρ' M' s'.st w' →
      Qc (.panic [{ v := x, recovered := false }]) a' w') : wpOpIn (FW r) 0 P ops Qc i Kc a w := by
  unfold aOp at h
  unfold wpOpIn
  split at h
  · rename_i ho; simp only [ho]; exact hK s ρ M a w h hh rfl rfl .refl
  · rename_i o ho
    simp only [ho]
    split at h
    · rename_i hw
      rw [awanted_sound hh hw, if_pos rfl]
      exact astep_sound hh hn h hK hQ
    · rename_i hw
      rw [awanted_sound hh hw, if_neg (by simp)]
      exact ⟨fun _ _ => trivial, hK _ ρ M _ w h (hh.put o.dst (.tup rfl (by simp))) (by simp) (by simp) (by simpa using Evo.refl)⟩
    · exact h.elim

/-- Names that code from counter c on may bind. -/
def NSc (ns : Nm) (c : Nat) (n : Nm) : Prop := ∃ c', c ≤ c' ∧ n.under (ns.sub c') = true

def LiftQ (ρ : Names) (M : Mem) (s0 : AS) (w : World) (Q : AExit → AS → Prop) : Exit → Act → World → Prop := fun e a' w' =>
  ∃ ae s' ρ' M', ExR ρ' M' e ae ∧ Q ae s' ∧ Holds ρ' M' s' a' w' ∧ s'.ns = s0.ns ∧ s0.c ≤ s'.c ∧ Evo (NSc s0.ns s0.c) ρ M s0.st w ρ' M' s'.st w'

theorem avail_evo {NS : Nm → Prop} {ρ' : Names} {M' : Mem} {σ σ' : Store} {w w' : World} (hev : Evo NS ρ M σ w ρ' M' σ' w') {n : Nm} (hn : ρ n = none) (hx : ¬ NS n) : ρ' n = none := by
  cases h : ρ' n with
  | none => rfl
  | some p => exact absurd (hev.names n p hn h) hx

theorem not_under_other {n ns : Nm} {i j : Nat} (h : n.under (ns.sub i) = true) (hne : i ≠ j) : ¬ n.under (ns.sub j) = true := fun h' => hne (Nm.under_sub_disjoint h h')

theorem aSeq_sound {r : Option Nat} {ops : Array Oper} {Q : AExit → AS → Prop} {s0 : AS} {w0 : World} {ρ0 : Names} {M0 : Mem} : ∀ (l : List Oper) (i : Nat) (s : AS) (ρ : Names) (M : Mem) (a : Act) (w : World), (∀ j, l[j]? = ops[i + j]?) →
    HoldsT ρ M s a w → s.ns = s0.ns → s.c = s0.c → (∀ c', s.c < c' → ∀ n, n.under (s.ns.sub c') = true → ρ n = none) → (∀ j, i ≤ j → ∀ n, n.under ((s.ns.sub s.c).sub j) = true → ρ n = none) →
    Evo (NSc s0.ns s0.c) ρ0 M0 s0.st w0 ρ M s.st w → aSeq P ops Q l i s →
    wpOpsIn (FW r) 0 P ops (LiftQ ρ0 M0 s0 w0 Q) (List.range' i l.length) a w
  | [], i, s, ρ, M, a, w, hl, hh, hns, hc, ha1, ha2, hev, h => by
    refine ⟨.normal, s.bump, ρ, M, .normal, h, ⟨⟨hh.tmps, hh.rel, hh.dfs⟩, fun c' hc' n hn => ha1 c' (by simp [AS.bump] at hc'; omega) n hn⟩, hns, by simp [AS.bump]; omega, hev⟩
  | o :: l, i, s, ρ, M, a, w, hl, hh, hns, hc, ha1, ha2, hev, h => by
    have ho : ops[i]? = some o := by have := hl 0; simpa using this.symm
    rw [List.length_cons, List.range'_succ, wpOpsIn_cons]
    have hA : aOp P ops Q i (aSeq P ops Q l (i + 1)) s := by
      unfold aOp; simp only [ho]; exact h
    have hN : ∀ m, m.under ((s.ns.sub s.c).sub i) = true → NSc s0.ns s0.c m := fun m hm => ⟨s.c, by omega, by rw [← hns]; exact Nm.under_of_sub hm⟩
    refine aOp_sound hh (ha2 i (Nat.le_refl _)) hA (fun s' ρ' M' a' w' hk hh' hns' hc' hev' => ?_) (fun v x s' ρ' M' a' w' hq hv hh' hns' hc' hev' => ?_)
    · refine aSeq_sound l (i + 1) s' ρ' M' a' w' (fun j => by have := hl (j + 1); simpa [Nat.add_assoc, Nat.add_comm 1 j] using this) hh' (hns'.trans hns) (hc'.trans hc) (fun c' hc'' n hn => ?_) (fun j hj n hn => ?_) (hev.trans (hev'.mono hN)) hk
      · rw [hns'] at hn; rw [hc'] at hc''
        exact avail_evo hev' (ha1 c' hc'' n hn) (fun hx => not_under_other (Nm.under_of_sub hx) (by omega) hn)
      · rw [hns', hc'] at hn
        exact avail_evo hev' (ha2 j (by omega) n hn) (fun hx => not_under_other hx (by omega) hn)
    · refine ⟨.panic v, s', ρ', M', .panic hv, hq, ⟨hh', fun c' hc'' n hn => ?_⟩, hns'.trans hns, by omega, hev.trans (hev'.mono hN)⟩
      rw [hns'] at hn; rw [hc'] at hc''
      exact avail_evo hev' (ha1 c' (by omega) n hn) (fun hx => not_under_other (Nm.under_of_sub hx) (by omega) hn)

theorem awAny_sound {r : Option Nat} {ops : Array Oper} {Q : AExit → AS → Prop} {s0 : AS} {w0 : World} {ρ0 : Names} {M0 : Mem} : ∀ (fuel : Nat) (listed : Array Bool) (s : AS) (ρ : Names) (M : Mem) (a : Act) (w : World),
    HoldsT ρ M s a w → s.ns = s0.ns → s.c = s0.c → (∀ c', s.c < c' → ∀ n, n.under (s.ns.sub c') = true → ρ n = none) → (∀ j, listed.getD j true = false → ∀ n, n.under ((s.ns.sub s.c).sub j) = true → ρ n = none) →
    Evo (NSc s0.ns s0.c) ρ0 M0 s0.st w0 ρ M s.st w → awAny P ops Q fuel listed s →
    wpAnyIn (FW r) 0 P .any ops (LiftQ ρ0 M0 s0 w0 Q) fuel listed a w := by
  intro fuel
  induction fuel with
  | zero =>
    intro listed s ρ M a w hh hns hc ha1 ha2 hev h
    exact ⟨h.1, .normal, s.bump, ρ, M, .normal, h.2, ⟨⟨hh.tmps, hh.rel, hh.dfs⟩, fun c' hc' n hn => ha1 c' (by simp [AS.bump] at hc'; omega) n hn⟩, hns, by simp [AS.bump]; omega, hev⟩
  | succ fuel ih =>
    intro listed s ρ M a w hh hns hc ha1 ha2 hev h
    refine ⟨fun h0 => ⟨.normal, s.bump, ρ, M, .normal, h.1 h0, ⟨⟨hh.tmps, hh.rel, hh.dfs⟩, fun c' hc' n hn => ha1 c' (by simp [AS.bump] at hc'; omega) n hn⟩, hns, by simp [AS.bump]; omega, hev⟩, fun i hi => ?_⟩
    have hu : listed.getD i true = false := (mem_ready.1 hi).1
    have hN : ∀ m, m.under ((s.ns.sub s.c).sub i) = true → NSc s0.ns s0.c m := fun m hm => ⟨s.c, by omega, by rw [← hns]; exact Nm.under_of_sub hm⟩
    refine aOp_sound hh (ha2 i hu) (h.2 i hi) (fun s' ρ' M' a' w' hk hh' hns' hc' hev' => ?_) (fun v x s' ρ' M' a' w' hq hv hh' hns' hc' hev' => ?_)
    · refine ih (listed.setIfInBounds i true) s' ρ' M' a' w' hh' (hns'.trans hns) (hc'.trans hc) (fun c' hc'' n hn => ?_) (fun j hj n hn => ?_) (hev.trans (hev'.mono hN)) hk
      · rw [hns'] at hn; rw [hc'] at hc''
        exact avail_evo hev' (ha1 c' hc'' n hn) (fun hx => not_under_other (Nm.under_of_sub hx) (by omega) hn)
      · rw [hns', hc'] at hn
        have hji : i ≠ j := fun e => by
          subst e
          simp only [Array.getD_eq_getD_getElem?, Array.getElem?_setIfInBounds, if_true] at hj
          split at hj <;> simp at hj
        have hj' : listed.getD j true = false := by
          simpa [Array.getD_eq_getD_getElem?, Array.getElem?_setIfInBounds, hji] using hj
        exact avail_evo hev' (ha2 j hj' n hn) (fun hx => not_under_other hx hji hn)
    · refine ⟨.panic v, s', ρ', M', .panic hv, hq, ⟨hh', fun c' hc'' n hn => ?_⟩, hns'.trans hns, by omega, hev.trans (hev'.mono hN)⟩
      rw [hns'] at hn; rw [hc'] at hc''
      exact avail_evo hev' (ha1 c' (by omega) n hn) (fun hx => not_under_other (Nm.under_of_sub hx) (by omega) hn)

/-- A loop, its state told beside. -/
theorem wpIn_loop_ghost {F : Fence} {n : Nat} {α : Type} {c : Code} {Q : Exit → Act → World → Prop} {a : Act} {w : World} (I : α → Act → World → Prop) (μ : α → Nat) (x₀ : α) (h₀ : I x₀ a w)
    (round : ∀ x a w, I x a w → c.wpIn F n P (Exit.then (fun a' w' => ∃ y, I y a' w' ∧ μ y < μ x) Q) a w) : (Code.loop c).wpIn F n P Q a w := by
  intro b k cs hro hb hr
  have key : ∀ j x a w, μ x = j → I x a w →
      ∃ e a' w', Q e a' w' ∧ ArrivesIn (Machine.fenced P F) P (lone (b.atR a (.code c :: .inLoop c :: k)) cs w) b k cs e a' w' := by
    intro j
    induction j using Nat.strongRecOn with
    | _ j ih =>
      intro x a w hn hI
      obtain ⟨e, a₁, w₁, hq, harr⟩ := round x a w hI b (.inLoop c :: k) cs hro hb hr
      cases e with
      | normal =>
        obtain ⟨y, hI₁, hlt⟩ := hq
        obtain ⟨e₂, a₂, w₂, hq₂, harr₂⟩ := ih (μ y) (hn ▸ hlt) y a₁ w₁ rfl hI₁
        exact ⟨e₂, a₂, w₂, hq₂, .of_steps (StepsIn.trans harr (.one (fenced_calm hb hr rfl) stepR_inLoop)) harr₂⟩
      | exit id => exact ⟨_, a₁, w₁, hq, .pass (x := .inLoop c) rfl (fun _ _ => .inl (by simp)) harr⟩
      | goto l => exact ⟨_, a₁, w₁, hq, .pass (x := .inLoop c) rfl (fun _ _ => .inl (by simp)) harr⟩
      | ret => exact ⟨_, a₁, w₁, hq, .pass (x := .inLoop c) rfl (fun _ _ => .inl (by simp)) harr⟩
      | panic ch => exact ⟨_, a₁, w₁, hq, .pass (x := .inLoop c) rfl (fun _ _ => .inl (by simp)) harr⟩
      | outgrown => exact ⟨_, a₁, w₁, hq, .pass (x := .inLoop c) rfl (fun _ _ => .inl (by simp)) harr⟩
  obtain ⟨e, a', w', hq, harr⟩ := key _ x₀ a w rfl h₀
  exact ⟨e, a', w', hq, .of_steps (.one (fenced_calm hb hr rfl) stepR_loop) harr⟩

theorem VarWk.or_ {w : World} {p : Pl} {o' o : AObj} (h : VarWk o' o) (ho : OR ρ M w p o') : OR ρ M w p o := by
  rcases h with rfl | ⟨cs, cs', rfl, rfl, hle⟩
  · exact ho
  · obtain ⟨h0, xs, T, hh, hv, hm⟩ := ho
    exact ⟨h0, xs, T, hh, hle.vrs hv, hm⟩
theorem StWk.rel {τ σ' : Store} {w : World} (h : StWk τ σ') (hr : Rel ρ M τ w) : Rel ρ M σ' w ∧ ∀ n, (σ' n).isSome = true → (τ n).isSome = true := by
  have some_ : ∀ n, (σ' n).isSome = true → (τ n).isSome = true := fun n hn => by
    obtain ⟨o, ho⟩ := Option.isSome_iff_exists.1 hn
    obtain ⟨o', ho', _⟩ := h n o ho
    simp [ho']
  refine ⟨⟨hr.mem, fun n o hn => ?_, fun n m p q hn hm => hr.inj n m p q (some_ n hn) (some_ m hm)⟩, some_⟩
  obtain ⟨o', ho', hc⟩ := h n o hn
  obtain ⟨p, hp, hor⟩ := hr.lies n o' ho'
  exact ⟨p, hp, hc.or_ hor⟩
theorem StWeak.wk {ns : Nm} {σ τ σ' : Store} (h : StWeak ns σ τ σ') (hf : ∀ n, n.under ns = true → σ n = none) : StWk τ σ' := fun n o hn => by
  rcases h n with ⟨h1, h2⟩ | h1
  · rw [h2, hf n h1] at hn; cases hn
  · exact h1 o hn
theorem StWeak.rel {ns : Nm} {σ τ σ' : Store} {w : World} (h : StWeak ns σ τ σ') (hr : Rel ρ M τ w) (hf : ∀ n, n.under ns = true → σ n = none) : Rel ρ M σ' w ∧ ∀ n, (σ' n).isSome = true → (τ n).isSome = true := (h.wk hf).rel hr
theorem Evo.wk {NS : Nm → Prop} {ρ' : Names} {M' : Mem} {σ τ σ' : Store} {w w' : World} (h : Evo NS ρ M σ w ρ' M' τ w') (hs : ∀ n, (σ' n).isSome = true → (τ n).isSome = true) : Evo NS ρ M σ w ρ' M' σ' w' :=
  ⟨h.grows, h.size, h.os, h.tape, h.output, h.keep, fun b ⟨n, p, hn, hp, e⟩ => h.own b ⟨n, p, hs n hn, hp, e⟩, h.memNew, h.names⟩

theorem restoreS_le {ns : Nm} {ks : List Nm} {σ τ : Store} (h : ∀ n, n.under ns = true → σ n = none) : (restoreS ns ks σ τ).le τ := fun n o hn => by
  unfold restoreS at hn
  split at hn
  · rename_i hc; rw [h n hc.1] at hn; cases hn
  · exact hn

theorem LiftQ.trans {Q : AExit → AS → Prop} {s0 s1 : AS} {w0 w1 : World} {ρ0 ρ1 : Names} {M0 M1 : Mem} {e : Exit} {a : Act} {w : World} (hev : Evo (NSc s0.ns s0.c) ρ0 M0 s0.st w0 ρ1 M1 s1.st w1) (hns : s1.ns = s0.ns) (hc : s0.c ≤ s1.c)
    (h : LiftQ ρ1 M1 s1 w1 Q e a w) : LiftQ ρ0 M0 s0 w0 Q e a w := by
  obtain ⟨ae, s', ρ', M', he, hq, hh, h1, h2, h3⟩ := h
  refine ⟨ae, s', ρ', M', he, hq, hh, h1.trans hns, Nat.le_trans hc h2, hev.trans (h3.mono fun n ⟨c', hc', hn⟩ => ⟨c', by omega, by rw [← hns]; exact hn⟩)⟩

theorem wpc_sound (hm : P.follows .mixedOrders = true) : ∀ (c : Code) (Q : AExit → AS → Prop) (s : AS), wpc P c Q s → ∀ (r : Option Nat) (ρ : Names) (M : Mem) (a : Act) (w : World), Holds ρ M s a w →
    c.wpIn (FW r) 0 P (LiftQ ρ M s w Q) a w := by
  intro c
  induction c with
  | skip => exact fun Q s h r ρ M a w hh => wpIn_skip ⟨.normal, s, ρ, M, .normal, h, hh, rfl, Nat.le_refl _, .refl⟩
  | label l => exact fun Q s h r ρ M a w hh => wpIn_label ⟨.normal, s, ρ, M, .normal, h, hh, rfl, Nat.le_refl _, .refl⟩
  | exit id => exact fun Q s h r ρ M a w hh => wpIn_exit ⟨.exit id, s, ρ, M, .exit id, h, hh, rfl, Nat.le_refl _, .refl⟩
  | goto l => exact fun Q s h r ρ M a w hh => wpIn_goto ⟨.goto l, s, ρ, M, .goto l, h, hh, rfl, Nat.le_refl _, .refl⟩
  | ret => exact fun Q s h r ρ M a w hh => wpIn_ret ⟨.ret, s, ρ, M, .ret, h, hh, rfl, Nat.le_refl _, .refl⟩
  | scope _ _ => exact fun Q s h => h.elim
  | refuse _ => exact fun Q s h => h.elim
  | rangeFunc _ _ _ _ _ _ => exact fun Q s h => h.elim
  | region id ops draw =>
    intro Q s h r ρ M a w hh
    cases draw with
    | false =>
      refine wpIn_region ?_
      have := aSeq_sound (P := P) (r := r) (Q := Q) (ops := ops) (s0 := s) (w0 := w) (ρ0 := ρ) (M0 := M) ops.toList 0 s ρ M a w (fun j => by simp) hh.toHoldsT rfl rfl (fun c' hc' n hn => hh.avail c' (by omega) n hn)
        (fun j _ n hn => hh.avail s.c (Nat.le_refl _) n (Nm.under_of_sub hn)) .refl h
      rw [List.range_eq_range']
      simpa using this
    | true =>
      refine wpIn_region_any hm ?_
      exact awAny_sound (P := P) (r := r) (Q := Q) (ops := ops) (s0 := s) (w0 := w) (ρ0 := ρ) (M0 := M) ops.size (Array.replicate ops.size false) s ρ M a { w with drawn := w.drawn + 1 } ⟨hh.tmps, hh.rel.drew _, hh.dfs⟩ rfl rfl
        (fun c' hc' n hn => hh.avail c' (by omega) n hn) (fun j _ n hn => hh.avail s.c (Nat.le_refl _) n (Nm.under_of_sub hn)) (.drew _) h
  | seq x y ihx ihy =>
    intro Q s h r ρ M a w hh
    refine wpIn_seq (wpIn_mono (ihx _ s h r ρ M a w hh) fun e a' w' hq => ?_)
    obtain ⟨ae, s', ρ', M', he, hq, hh', h1, h2, h3⟩ := hq
    cases he with
    | normal => exact wpIn_mono (ihy Q s' hq r ρ' M' a' w' hh') fun e a'' w'' hl => hl.trans h3 h1 h2
    | exit id => exact ⟨_, s', ρ', M', .exit id, hq, hh', h1, h2, h3⟩
    | goto l => exact ⟨_, s', ρ', M', .goto l, hq, hh', h1, h2, h3⟩
    | ret => exact ⟨_, s', ρ', M', .ret, hq, hh', h1, h2, h3⟩
    | panic hv => exact ⟨_, s', ρ', M', .panic hv, hq, hh', h1, h2, h3⟩
  | cond c x y ihx ihy =>
    intro Q s h r ρ M a w hh
    simp only [wpc] at h
    split at h
    · rename_i t ht
      have hv := hh.ev c
      rw [ht] at hv
      generalize hac : a.eval c = ac at hv
      cases hv
      exact wpIn_cond_split hac (fun e => ihx Q s (h.1 e) r ρ M a w hh) (fun e => ihy Q s (h.2 e) r ρ M a w hh)
    · rename_i ht
      have hv := hh.ev c
      rw [ht] at hv
      generalize hac : a.eval c = ac at hv
      cases hv
      exact wpIn_cond_split hac (fun e => ihx Q s h.1 r ρ M a w hh) (fun e => ihy Q s h.2 r ρ M a w hh)
    · exact h.elim
  | block id c ih =>
    intro Q s h r ρ M a w hh
    refine wpIn_block (wpIn_mono (ih _ s h r ρ M a w hh) fun e a' w' hq => ?_)
    obtain ⟨ae, s', ρ', M', he, hq, hh', h1, h2, h3⟩ := hq
    cases he with
    | normal => exact ⟨_, s', ρ', M', .normal, hq, hh', h1, h2, h3⟩
    | exit id' =>
      simp only [inBlockA] at hq
      simp only [Exit.inBlock]
      split at hq
      · rename_i e; rw [if_pos e]; exact ⟨_, s', ρ', M', .normal, hq, hh', h1, h2, h3⟩
      · rename_i e; rw [if_neg e]; exact ⟨_, s', ρ', M', .exit id', hq, hh', h1, h2, h3⟩
    | goto l => exact ⟨_, s', ρ', M', .goto l, hq, hh', h1, h2, h3⟩
    | ret => exact ⟨_, s', ρ', M', .ret, hq, hh', h1, h2, h3⟩
    | panic hv => exact ⟨_, s', ρ', M', .panic hv, hq, hh', h1, h2, h3⟩
  | loop c ih =>
    intro Q s h r ρ M a w hh
    obtain ⟨α, S, μ, Good, a0, hS, hg0, hle0, hst0, hd0, hround⟩ := h
    have hrel0 := hst0.rel hh.rel
    -- the ghost: a parameter, a round's number
    refine wpIn_loop_ghost (α := α × Nat) (fun x a' w' => ∃ ρ' M', Good x.1 ∧ HoldsT ρ' M' (S x.1) a' w' ∧ Evo (NSc s.ns s.c) ρ M s.st w ρ' M' (S x.1).st w' ∧
        (∀ k, x.2 ≤ k → ∀ n, n.under ((s.ns.sub s.c).sub k) = true → ρ' n = none) ∧ (∀ c', s.c < c' → ∀ n, n.under (s.ns.sub c') = true → ρ' n = none)) (fun x => μ x.1) (a0, 0)
      ⟨ρ, M, hg0, ⟨hle0.vrs hh.tmps, hrel0.1, hd0 ▸ hh.dfs⟩, Evo.wk .refl hrel0.2, fun k _ n hn => hh.avail s.c (Nat.le_refl _) n (Nm.under_of_sub hn), fun c' hc' n hn => hh.avail c' (by omega) n hn⟩ ?_
    rintro ⟨b, k⟩ a' w' ⟨ρ', M', hI, hht, hev, hfr, hfr2⟩
    simp only at hI hht hev hfr hfr2
    obtain ⟨t, ht⟩ : ∃ t, t = S b := ⟨_, rfl⟩
    have hns : t.ns = s.ns := by rw [ht]; exact (hS b).1
    have hc : t.c = s.c := by rw [ht]; exact (hS b).2
    have hround' := hround b k hI
    rw [← ht] at hht hev hround'
    have hh1 : Holds ρ' M' { t with ns := (s.ns.sub s.c).sub k, c := 0 } a' w' := ⟨⟨hht.tmps, hht.rel, hht.dfs⟩, fun c' _ n hn => hfr k (Nat.le_refl _) n (Nm.under_of_sub hn)⟩
    refine wpIn_mono (ih _ _ hround' r ρ' M' a' w' hh1) fun e a'' w'' hq => ?_
    obtain ⟨ae, t', ρ'', M'', he, hq, hh', h1, h2, h3⟩ := hq
    simp only at h1 h3
    have hN : ∀ n, NSc ((s.ns.sub s.c).sub k) 0 n → n.under ((s.ns.sub s.c).sub k) = true := fun n ⟨c', _, hn⟩ => Nm.under_of_sub hn
    have hN2 : ∀ n, NSc ((s.ns.sub s.c).sub k) 0 n → NSc s.ns s.c n := fun n hn => ⟨s.c, Nat.le_refl _, Nm.under_of_sub (hN n hn)⟩
    have hev2 := hev.trans (h3.mono hN2)
    have out : ∀ n c', s.c + 1 ≤ c' → n.under (s.ns.sub c') = true → ρ'' n = none := fun n c' hc' hn =>
      avail_evo h3 (hfr2 c' (by omega) n hn) (fun hx => not_under_other (Nm.under_of_sub (hN n hx)) (by omega) hn)
    have hh2 : Holds ρ'' M'' { t' with ns := s.ns, c := s.c + 1 } a'' w'' := ⟨⟨hh'.tmps, hh'.rel, hh'.dfs⟩, fun c' hc' n hn => out n c' hc' hn⟩
    cases he with
    | normal =>
      obtain ⟨b', hgb, hμ, hle, hwk, hdd⟩ := hq
      rw [← ht] at hwk
      have hfresh : ∀ n, n.under ((s.ns.sub s.c).sub k) = true → t.st n = none := fun n hn => by
        cases hx : t.st n with
        | none => rfl
        | some o =>
          obtain ⟨p, hp, _⟩ := hht.rel.lies n o hx
          rw [hfr k (Nat.le_refl _) n hn] at hp; cases hp
      have hrel := hwk.rel hh'.rel hfresh
      refine ⟨(b', k + 1), ⟨ρ'', M'', hgb, ⟨hle.vrs hh'.tmps, hrel.1, hdd ▸ hh'.dfs⟩, hev2.wk hrel.2, fun k' hk' n hn => ?_, fun c' hc' n hn => out n c' (by omega) hn⟩, hμ⟩
      exact avail_evo h3 (hfr k' (by omega) n hn) (fun hx => not_under_other (hN n hx) (by omega) hn)
    | exit id => exact ⟨_, _, ρ'', M'', .exit id, hq, hh2, rfl, by simp, hev2⟩
    | goto l => exact ⟨_, _, ρ'', M'', .goto l, hq, hh2, rfl, by simp, hev2⟩
    | ret => exact ⟨_, _, ρ'', M'', .ret, hq, hh2, rfl, by simp, hev2⟩
    | panic hv => exact ⟨_, _, ρ'', M'', .panic hv, hq, hh2, rfl, by simp, hev2⟩

/-! ### Functions -/
def aresult (P : Program) (s : AS) : ResultVar → Option AV
  | .tmp t => s.tmps[t]?
  | .cell a t => match s.tmps[a]? with
    | some v => aload P s.st t v
    | none => none
def aresults (P : Program) (rs : List ResultVar) (s : AS) : Option AV :=
  match rs.mapM (aresult P s) with
  | some [v] => some v
  | some vs => some (.tup vs)
  | none => none

def bodyA (P : Program) (rs : List ResultVar) (σ : Store) (ns : Nm) (R : AEnd → Store → Prop) : AExit → AS → Prop
  | .normal, s => s.dfs = [] ∧ ∃ v, aresults P rs s = some v ∧ ∃ v' σ', AVle v v' ∧ StWeak ns σ s.st σ' ∧ R (.ret v') σ'
  | .ret, s => s.dfs = [] ∧ ∃ v, aresults P rs s = some v ∧ ∃ v' σ', AVle v v' ∧ StWeak ns σ s.st σ' ∧ R (.ret v') σ'
  | .panic v, s => s.dfs = [] ∧ ∃ v' σ', AVle v v' ∧ StWeak ns σ s.st σ' ∧ R (.panic v') σ'
  | _, _ => False

theorem aresults_sound {fn : Func} {s : AS} {a : Act} {w : World} {v : AV} (hh : HoldsT ρ M s a w) (h : aresults P fn.results.toList s = some v) : ∃ x : Value, (results fn a.tmps).run P w = .ok x w ∧ VR ρ M v x := by
  have key : ∀ (rs : List ResultVar) (vs : List AV), rs.mapM (aresult P s) = some vs → ∃ xs : List Value, (rs.mapM (resultAt a)).run P w = .ok xs w ∧ VRs ρ M vs xs := by
    intro rs
    induction rs with
    | nil => intro vs hv; simp at hv; subst hv; exact ⟨[], by simp, .nil⟩
    | cons r rs ih =>
      intro vs hv
      simp only [List.mapM_cons, Option.bind_eq_bind, Option.pure_def] at hv
      cases hr : aresult P s r with
      | none => simp [hr] at hv
      | some v =>
        cases hrs : rs.mapM (aresult P s) with
        | none => simp [hr, hrs] at hv
        | some vs' =>
          simp [hr, hrs] at hv; subst hv
          obtain ⟨xs, hxs, hvs⟩ := ih vs' hrs
          have one : ∃ x : Value, (resultAt a r).run P w = .ok x w ∧ VR ρ M v x := by
            cases r with
            | tmp t =>
              obtain ⟨x, hx, hvx⟩ := hh.tmps.ex hr
              have hx' : a.tmps[t]? = some x := by simpa using hx
              exact ⟨x, by simp [resultAt, Array.getD_eq_getD_getElem?, hx'], hvx⟩
            | cell c t =>
              simp only [aresult] at hr
              split at hr
              · rename_i u hu
                obtain ⟨x, hx, hvx⟩ := hh.tmps.ex hu
                have hx' : a.tmps[c]? = some x := by simpa using hx
                obtain ⟨y, hy, hvy⟩ := aload_sound (P := P) hh.rel hvx hr
                refine ⟨y, ?_, hvy⟩
                -- the address is there
                have hp : ∃ ad, x = .pointer (some ad) := by
                  unfold aload at hr
                  have : ∃ k cs, aread s.st u k = some cs := by
                    split at hr
                    · split at hr
                      · rename_i k hk
                        cases hc : aread s.st u k with
                        | none => simp [hc] at hr
                        | some cs => exact ⟨k, cs, hc⟩
                      · cases hr
                    · split at hr
                      · rename_i hc; exact ⟨1, _, hc⟩
                      · cases hr
                    · cases hr
                  obtain ⟨k, cs, hc⟩ := this
                  obtain ⟨b, o, xs, rfl, _⟩ := aread_sound hh.rel hvx hc
                  exact ⟨_, rfl⟩
                obtain ⟨ad, rfl⟩ := hp
                simp only [Instr.loadAt, Instr.sureAddr, Sem.run_bind, Sem.run_pure, Result.andThen_ok] at hy
                simp [resultAt, Array.getD_eq_getD_getElem?, hx', asAddr, hy]
              · cases hr
          obtain ⟨x, hx, hvx⟩ := one
          refine ⟨x :: xs, ?_, .cons hvx hvs⟩
          simp only [List.mapM_cons, Sem.run_bind, hx, hxs, Result.andThen_ok, Sem.run_pure]
  unfold aresults at h
  cases hm : fn.results.toList.mapM (aresult P s) with
  | none => simp [hm] at h
  | some vs =>
    obtain ⟨xs, hxs, hvs⟩ := key _ _ hm
    have hrun : (results fn a.tmps).run P w = .ok (if h : xs.toArray.size = 1 then xs.toArray[0] else .tuple xs.toArray) w := by
      unfold results
      rw [Sem.run_bind]
      have : (fn.results.mapM (resultAt a)).run P w = .ok xs.toArray w := by
        rw [Array.mapM_eq_mapM_toList, Sem.run_map, hxs]
        rfl
      show ((fn.results.mapM (resultAt a)).run P w).andThen _ = _
      rw [this]
      rfl
    rw [hrun]
    rw [hm] at h
    match vs, xs, hvs, h with
    | [], [], hvs, h => simp at h; subst h; exact ⟨_, rfl, by simpa using VR.tup_iff.2 ⟨[], rfl, hvs⟩⟩
    | [v1], [x1], hvs, h => simp at h; subst h; exact ⟨_, rfl, by simpa using hvs.head⟩
    | v1 :: v2 :: vs, x1 :: x2 :: xs, hvs, h => simp at h; subst h; exact ⟨_, rfl, by simpa using VR.tup_iff.2 ⟨_, rfl, hvs⟩⟩
    | [], _ :: _, hvs, h => exact absurd hvs.len (by simp)
    | _ :: _, [], hvs, h => exact absurd hvs.len (by simp)
    | [_], _ :: _ :: _, hvs, h => exact absurd hvs.len (by simp)
    | _ :: _ :: _, [_], hvs, h => exact absurd hvs.len (by simp)

theorem acalls_of_wpc (hm : P.follows .mixedOrders = true) {f : FuncId} {fn : Func} {c : Code} {args : List AV} {σ : Store} {ns : Nm} {R : AEnd → Store → Prop} (hf : P.funcs[f]? = some fn) (hb : fn.body = some c) (hen : enters P f = true)
    (h : wpc P c (bodyA P fn.results.toList σ ns R) { tmps := args ++ List.replicate (fn.ntmps - args.length) (.tup []), st := σ, ns := ns, c := 0, dfs := [] }) : ACalls P f args σ ns R := by
  refine ⟨hen, fun ρ M w xs hr hfr hv => ?_⟩
  refine callsIn_wide (n := 0).1 (callsIn_of_wp hf hb trivial ?_)
  have hh : Holds ρ M { tmps := args ++ List.replicate (fn.ntmps - args.length) (.tup []), st := σ, ns := ns, c := 0, dfs := [] } { tmps := xs.toArray ++ Array.replicate (fn.ntmps - xs.toArray.size) undef, defers := [] } w := by
    refine ⟨⟨?_, hr, .nil⟩, fun c' _ n hn => hfr n (Nm.under_of_sub hn)⟩
    have hl : args.length = xs.length := hv.len
    simp only [Array.toList_append, Array.toList_replicate, List.size_toArray, ← hl]
    refine hv.append ⟨by simp, fun i v x hv hx => ?_⟩
    rw [List.getElem?_replicate] at hv hx
    split at hv
    · rename_i hi
      rw [if_pos hi] at hx
      injection hv with hv; injection hx with hx; subst hv; subst hx
      exact .tup rfl (by simp)
    · cases hv
  have hs : ∀ n, n.under ns = true → σ n = none := fun n hn => by
    cases hx : σ n with
    | none => rfl
    | some o => obtain ⟨p, hp, _⟩ := hr.lies n o hx; rw [hfr n hn] at hp; cases hp
  refine wpIn_mono (wpc_sound hm c _ _ h none ρ M _ w hh) fun e a' w' hq => ?_
  obtain ⟨ae, s', ρ', M', he, hq, hh', _, _, hev⟩ := hq
  have hev' : Evo (fun n => n.under ns = true) ρ M σ w ρ' M' s'.st w' := hev.mono fun n ⟨c', _, hn⟩ => Nm.under_of_sub hn
  have fin : ∀ σ', StWeak ns σ s'.st σ' → Rel ρ' M' σ' w' ∧ Evo (fun n => n.under ns = true) ρ M σ w ρ' M' σ' w' := fun σ' hw => by
    obtain ⟨h1, h2⟩ := hw.rel hh'.rel hs
    exact ⟨h1, ⟨hev'.grows, hev'.size, hev'.os, hev'.tape, hev'.output, hev'.keep, fun b ⟨n, p, hn, hp, e⟩ => hev'.own b ⟨n, p, h2 n hn, hp, e⟩, hev'.memNew, hev'.names⟩⟩
  have hret : ∀ s' : AS, s'.dfs = [] → DfsR ρ' M' s'.dfs a'.defers → a'.defers = [] := fun s' h1 h2 => by
    rw [h1] at h2
    generalize a'.defers = ds at h2
    cases h2; rfl
  cases he with
  | normal =>
    obtain ⟨hd, v, hres, v', σ', hle, hw, hR⟩ := hq
    obtain ⟨x, hx, hvx⟩ := aresults_sound hh'.toHoldsT hres
    obtain ⟨h1, h2⟩ := fin σ' hw
    exact ⟨hret s' hd hh'.dfs, x, hx, .ret v', σ', ρ', M', .ret (hle _ _ _ hvx), hR, h1, h2⟩
  | ret =>
    obtain ⟨hd, v, hres, v', σ', hle, hw, hR⟩ := hq
    obtain ⟨x, hx, hvx⟩ := aresults_sound hh'.toHoldsT hres
    obtain ⟨h1, h2⟩ := fin σ' hw
    exact ⟨hret s' hd hh'.dfs, x, hx, .ret v', σ', ρ', M', .ret (hle _ _ _ hvx), hR, h1, h2⟩
  | panic hv =>
    obtain ⟨hd, v', σ', hle, hw, hR⟩ := hq
    obtain ⟨h1, h2⟩ := fin σ' hw
    exact ⟨hret s' hd hh'.dfs, .panic v', σ', ρ', M', .panic (hle _ _ _ hv), hR, h1, h2⟩
  | exit id => exact hq.elim
  | goto l => exact hq.elim

end
end Go.Abs
